/- Texts of one walk, merged: XDr. -/
import Derived.Test.YtcjnpklmfcbofaaGreatDoorWg

/- The dates' rules as the reference reads them (plain). -/
set_option linter.unusedVariables false
set_option linter.unusedSimpArgs false
section
set_option linter.unusedVariables false
set_option linter.unusedSimpArgs false
namespace Go.Proofs.YtcjnpklmfcbofaaGreatDoor

/-- does a byte look like a pattern's byte ('0': any digit) -/
def likeB (c p : UInt8) : Bool := if p = 48 then decide (48 ≤ c.toNat ∧ c.toNat ≤ 57) else c == p
def likeL : List UInt8 → List UInt8 → Bool
  | [], [] => true
  | c :: s, p :: ps => likeB c p && likeL s ps
  | _, _ => false

/-- digits' number, as the reference reckons it -/
def valueL (l : List UInt8) : Int := l.foldl (fun n c => 10 * n + (((c - 48 : UInt8).toNat : Nat) : Int)) 0
/-- which of a row of names a text is; -1: none -/
def plL : Nat → Nat → List UInt8 → List UInt8 → Int
  | 0, _, _, _ => -1
  | k + 1, i, t, s => if s = t.take 3 then (i : Int) else plL k (i + 1) (t.drop 3) s

theorem isD_sub {c : UInt8} (h : isD c = true) : (((c - 48 : UInt8).toNat : Nat) : Int) = (c.toNat : Int) - 48 := by
  have h1 : 48 ≤ c.toNat := by unfold isD at h; simp at h; omega
  have := UInt8.toNat_sub_of_le c 48 (by rw [UInt8.le_iff_toNat_le]; exact h1)
  rw [this]
  have : (48 : UInt8).toNat = 48 := rfl
  omega
theorem likeB_dig (c : UInt8) : likeB c 48 = isD c := by
  unfold likeB isD; simp
theorem likeB_lit {c p : UInt8} (hp : p ≠ 48) : likeB c p = (c == p) := by
  unfold likeB; rw [if_neg hp]

theorem num_eq : ∀ (k : Nat) (n : Int) (l : List UInt8), num k n l = if likeL (l.take k) (List.replicate k 48) = true then some ((l.take k).foldl (fun n c => 10 * n + (((c - 48 : UInt8).toNat : Nat) : Int)) n, l.drop k) else none
  | 0, n, l => by simp [num, likeL]
  | k + 1, n, [] => by simp [num, likeL, List.replicate_succ]
  | k + 1, n, c :: l => by
    rw [num, num_eq k, List.take_succ_cons, List.drop_succ_cons, List.replicate_succ]
    rw [show likeL (c :: l.take k) (48 :: List.replicate k 48) = (likeB c 48 && likeL (l.take k) (List.replicate k 48)) from rfl, likeB_dig]
    by_cases h : isD c = true
    · rw [if_pos h, h, Bool.true_and, List.foldl_cons, isD_sub h]
    · rw [if_neg h, Bool.eq_false_iff.2 h, Bool.false_and, if_neg (by decide)]
theorem num_value (k : Nat) (l : List UInt8) : num k 0 l = if likeL (l.take k) (List.replicate k 48) = true then some (valueL (l.take k), l.drop k) else none := num_eq k 0 l

theorem pre_take {t l : List UInt8} : t.isPrefixOf l = true ↔ l.take t.length = t := by
  rw [List.isPrefixOf_iff_prefix, List.prefix_iff_eq_take]
  exact eq_comm
theorem lit_eq (t l : List UInt8) : lit t l = if l.take t.length = t then some (l.drop t.length) else none := by
  unfold lit
  by_cases h : l.take t.length = t
  · rw [if_pos h, if_pos (pre_take.2 h)]
  · rw [if_neg h, if_neg (fun h' => h (pre_take.1 h'))]
theorem nm_eq : ∀ (k i : Nat) (t l : List UInt8), 3 * k ≤ t.length → nm k i t l = if 0 ≤ plL k i t (l.take 3) then some (plL k i t (l.take 3), l.drop 3) else none
  | 0, i, t, l, _ => by simp [nm, plL]
  | k + 1, i, t, l, h => by
    have h3 : (t.take 3).length = 3 := by rw [List.length_take]; omega
    rw [nm, plL]
    by_cases hp : l.take 3 = t.take 3
    · rw [if_pos (pre_take.2 (by rw [h3]; exact hp)), if_pos hp, if_pos (by omega)]
    · rw [if_neg (fun h' => hp (by have := pre_take.1 h'; rw [h3] at this; exact this)), if_neg hp]
      exact nm_eq k (i + 1) (t.drop 3) l (by rw [List.length_drop]; omega)

theorem likeL_append : ∀ (p q s : List UInt8), likeL s (p ++ q) = (likeL (s.take p.length) p && likeL (s.drop p.length) q)
  | [], q, s => by simp [likeL]
  | a :: p, q, [] => by simp [likeL]
  | a :: p, q, c :: s => by
    simp only [List.cons_append, List.length_cons, List.take_succ_cons, List.drop_succ_cons, likeL]
    rw [likeL_append p q s, Bool.and_assoc]
theorem likeL_len2 {s p : List UInt8} (h : likeL s p = true) : s.length = p.length := by
  induction s generalizing p with
  | nil => cases p with
    | nil => rfl
    | cons _ _ => cases h
  | cons c s ih => cases p with
    | nil => cases h
    | cons d ps => simp only [likeL, Bool.and_eq_true] at h; simp [ih h.2]

theorem num_len {k : Nat} {n : Int} {l : List UInt8} {v : Int} {r : List UInt8} (h : num k n l = some (v, r)) : l.length = k + r.length := by
  rw [num_eq] at h
  split at h
  · rename_i hl
    obtain ⟨_, rfl⟩ := Prod.mk.inj (Option.some.inj h)
    have := likeL_len2 hl
    simp at this ⊢
    omega
  · cases h
theorem lit_len3 {t l r : List UInt8} (h : lit t l = some r) : l.length = t.length + r.length := by
  rw [lit_eq] at h
  split at h
  · rename_i hl
    obtain rfl := Option.some.inj h
    have := congrArg List.length hl
    simp at this ⊢
    omega
  · cases h
theorem plL_len : ∀ (k i : Nat) (t s : List UInt8), 3 * k ≤ t.length → 0 ≤ plL k i t s → s.length = 3
  | 0, _, _, _, _, h => by simp [plL] at h
  | k + 1, i, t, s, ht, h => by
    rw [plL] at h
    by_cases hp : s = t.take 3
    · rw [hp, List.length_take]; omega
    · rw [if_neg hp] at h
      exact plL_len k (i + 1) (t.drop 3) s (by rw [List.length_drop]; omega) h
theorem nm_len {k i : Nat} {t l r : List UInt8} {v : Int} (ht : 3 * k ≤ t.length) (h : nm k i t l = some (v, r)) : l.length = 3 + r.length := by
  rw [nm_eq _ _ _ _ ht] at h
  split at h
  · rename_i hl
    obtain ⟨_, rfl⟩ := Prod.mk.inj (Option.some.inj h)
    have := plL_len _ _ _ _ ht hl
    simp at this ⊢
    omega
  · cases h
theorem zoneNum_len {s : Int} {l r : List UInt8} {v : Int} (h : zoneNum s l = some (v, r)) : l.length = 4 + r.length := by
  unfold zoneNum at h
  rcases h1 : num 2 0 l with _ | ⟨x, r1⟩
  · rw [h1] at h; cases h
  · rw [h1] at h
    simp only at h
    rcases h2 : num 2 0 r1 with _ | ⟨y, r2⟩
    · rw [h2] at h; cases h
    · rw [h2] at h
      simp only at h
      split at h
      · obtain ⟨_, rfl⟩ := Prod.mk.inj (Option.some.inj h)
        have := num_len h1
        have := num_len h2
        omega
      · cases h
theorem zone_len {l r : List UInt8} {v : Int} (h : zone l = some (v, r)) : l.length = 5 + r.length := by
  cases l with
  | nil => cases h
  | cons c t =>
    have e : zone (c :: t) = if c = 43 then zoneNum 1 t else if c = 45 then zoneNum (-1) t else none := rfl
    rw [e] at h
    split at h
    · have := zoneNum_len h; simp; omega
    · split at h
      · have := zoneNum_len h; simp; omega
      · cases h

/-- a zone, as the reference reads it -/
def zoneR (s : List UInt8) : Option Int :=
  if likeL s [43, 48, 48, 48, 48] = false ∧ likeL s [45, 48, 48, 48, 48] = false then none
  else if valueL ((s.drop 1).take 2) > 23 ∨ valueL ((s.drop 3).take 2) > 59 then none
  else if s.headD 0 = 45 then some (-3600 * valueL ((s.drop 1).take 2) - 60 * valueL ((s.drop 3).take 2))
  else some (3600 * valueL ((s.drop 1).take 2) + 60 * valueL ((s.drop 3).take 2))

theorem zoneR_eq (s : List UInt8) (h5 : s.length = 5) : zone s = (zoneR s).map fun z => (z, []) := by
  match s, h5 with
  | [c0, c1, c2, c3, c4], _ =>
    have e : zone [c0, c1, c2, c3, c4] = if c0 = 43 then zoneNum 1 [c1, c2, c3, c4] else if c0 = 45 then zoneNum (-1) [c1, c2, c3, c4] else none := rfl
    have eN : ∀ sg, zoneNum sg [c1, c2, c3, c4] = if likeL [c1, c2] [48, 48] = true then (if likeL [c3, c4] [48, 48] = true then (if valueL [c1, c2] < 24 ∧ valueL [c3, c4] < 60 then some (sg * (valueL [c1, c2] * 3600 + valueL [c3, c4] * 60), []) else none) else none) else none := by
      intro sg
      unfold zoneNum
      rw [num_value]
      simp only [List.take_succ_cons, List.take_zero, List.drop_succ_cons, List.drop_zero, List.replicate_succ, List.replicate_zero]
      by_cases h1 : likeL [c1, c2] [48, 48] = true
      · simp only [if_pos h1]
        rw [num_value]
        simp only [List.take_succ_cons, List.take_zero, List.drop_succ_cons, List.drop_zero, List.replicate_succ, List.replicate_zero]
        by_cases h2 : likeL [c3, c4] [48, 48] = true
        · simp only [if_pos h2]
        · simp only [if_neg h2]
      · simp only [if_neg h1]
    have eL : ∀ d : UInt8, d ≠ 48 → likeL [c0, c1, c2, c3, c4] [d, 48, 48, 48, 48] = (c0 == d && (likeL [c1, c2] [48, 48] && likeL [c3, c4] [48, 48])) := by
      intro d hd
      have := likeL_append [d] [48, 48, 48, 48] [c0, c1, c2, c3, c4]
      simp only [List.cons_append, List.nil_append, List.length_cons, List.length_nil, List.take_succ_cons, List.take_zero, List.drop_succ_cons, List.drop_zero] at this
      rw [this, show likeL [c0] [d] = (c0 == d) by simp [likeL, likeB_lit hd]]
      have := likeL_append [48, 48] [48, 48] [c1, c2, c3, c4]
      simp only [List.cons_append, List.nil_append, List.length_cons, List.length_nil, List.take_succ_cons, List.take_zero, List.drop_succ_cons, List.drop_zero] at this
      rw [this]
    rw [e, eN, eN]
    unfold zoneR
    rw [eL 43 (by decide), eL 45 (by decide)]
    simp only [List.take_succ_cons, List.take_zero, List.drop_succ_cons, List.drop_zero, List.headD_cons]
    generalize likeL [c1, c2] [48, 48] = A
    generalize likeL [c3, c4] [48, 48] = B
    generalize valueL [c1, c2] = x
    generalize valueL [c3, c4] = y
    have e1 : (x > 23 ∨ y > 59) ↔ ¬ (x < 24 ∧ y < 60) := by omega
    simp only [e1]
    by_cases h : x < 24 ∧ y < 60
    · have i1 : 1 * (x * 3600 + y * 60) = 3600 * x + 60 * y := by omega
      have i2 : -1 * (x * 3600 + y * 60) = -3600 * x - 60 * y := by omega
      rw [i1, i2]
      by_cases h0 : c0 = 43
      · subst h0; cases A <;> cases B <;> simp [h]
      · by_cases h1 : c0 = 45
        · subst h1; cases A <;> cases B <;> simp [h]
        · cases A <;> cases B <;> simp [h0, h1]
    · by_cases h0 : c0 = 43
      · subst h0; cases A <;> cases B <;> simp [h]
      · by_cases h1 : c0 = 45
        · subst h1; cases A <;> cases B <;> simp [h]
        · cases A <;> cases B <;> simp [h0, h1]

def fullR (R : Option (RuleD × List UInt8)) : Option RuleD := match R with
  | some (d, []) => some d
  | _ => none

theorem bind_ite {α β : Type} {c : Prop} [Decidable c] {x : α} {f : α → Option β} : (if c then some x else none).bind f = if c then f x else none := by
  split <;> rfl
theorem ite_both {α : Type} {a b : Prop} [Decidable a] [Decidable b] {x : Option α} : (if a then (if b then x else none) else none) = if a ∧ b then x else none := by
  by_cases h : a <;> by_cases k : b <;> simp [h, k]
theorem nmM (l : List UInt8) : nm 12 0 monthsL l = if 0 ≤ plL 12 0 monthsL (l.take 3) then some (plL 12 0 monthsL (l.take 3), l.drop 3) else none := nm_eq 12 0 monthsL l (by decide)

/-- a day as the reference reads it -/
def refDayC (l : List UInt8) : Option RuleD :=
  if l.length ≠ (if l.length = 11 then 2 else 1) + 9 ∨ likeL (l.take (if l.length = 11 then 2 else 1)) (([48, 48] : List UInt8).take (if l.length = 11 then 2 else 1)) = false ∨ l.getD (if l.length = 11 then 2 else 1) 0 ≠ 45 ∨
      plL 12 0 monthsL ((l.drop ((if l.length = 11 then 2 else 1) + 1)).take 3) < 0 ∨ likeL (l.drop ((if l.length = 11 then 2 else 1) + 4)) [45, 48, 48, 48, 48] = false then none
  else some ((valueL (l.drop ((if l.length = 11 then 2 else 1) + 5)), plL 12 0 monthsL ((l.drop ((if l.length = 11 then 2 else 1) + 1)).take 3) + 1, valueL (l.take (if l.length = 11 then 2 else 1)), 0, 0, 0), 0)

/-- behind a day's number -/
def rest9 (l : List UInt8) : Option ((Int × Int) × List UInt8) :=
  (lit [45] l).bind fun r1 => (nm 12 0 monthsL r1).bind fun q2 => (lit [45] q2.2).bind fun r3 => (num 4 0 r3).bind fun q4 => some ((q4.1, q2.1 + 1), q4.2)
theorem ruleDay_rest (l : List UInt8) : ruleDay l = (short l).bind fun q0 => (rest9 q0.2).bind fun q => some (((q.1.1, q.1.2, q0.1, 0, 0, 0), 0), q.2) := by
  unfold ruleDay rest9
  simp only [Option.bind_assoc, Option.bind_some]
  rfl
theorem rest9_len {l r : List UInt8} {q : Int × Int} (h : rest9 l = some (q, r)) : l.length = 9 + r.length := by
  unfold rest9 at h
  simp only [Option.bind_eq_some_iff] at h
  obtain ⟨r1, h1, q2, h2, r3, h3, q4, h4, h⟩ := h
  obtain ⟨_, rfl⟩ := Prod.mk.inj (Option.some.inj h)
  have a1 := lit_len3 h1
  have a2 := nm_len (by decide) (show nm 12 0 monthsL r1 = some (q2.1, q2.2) from h2)
  have a3 := lit_len3 h3
  have a4 := num_len (show num 4 0 r3 = some (q4.1, q4.2) from h4)
  simp at a1 a3
  omega
theorem like5 (s : List UInt8) : likeL s [45, 48, 48, 48, 48] = (likeL (s.take 1) [45] && likeL (s.drop 1) [48, 48, 48, 48]) := likeL_append [45] [48, 48, 48, 48] s
theorem like1 {p : UInt8} (c : UInt8) (hp : p ≠ 48) : likeL [c] [p] = (c == p) := by simp [likeL, likeB_lit hp]
theorem rest9_eq (l : List UInt8) (h9 : l.length = 9) : rest9 l = if l.getD 0 0 = 45 ∧ 0 ≤ plL 12 0 monthsL ((l.drop 1).take 3) ∧ likeL (l.drop 4) [45, 48, 48, 48, 48] = true then some ((valueL (l.drop 5), plL 12 0 monthsL ((l.drop 1).take 3) + 1), []) else none := by
  match l, h9 with
  | [d0, d1, d2, d3, d4, d5, d6, d7, d8], _ =>
    unfold rest9
    rw [like5]
    simp only [lit_eq, nmM, num_value, bind_ite, List.length_cons, List.length_nil, List.take_succ_cons, List.take_zero, List.drop_succ_cons, List.drop_zero, List.take_nil, List.drop_nil, List.getD_cons_zero, List.replicate_succ, List.replicate_zero, ite_both, like1 _ (show (45 : UInt8) ≠ 48 by decide), Nat.zero_add, Bool.and_eq_true, beq_iff_eq, List.cons.injEq, and_true]
theorem short_eq (c0 c1 : UInt8) (t : List UInt8) : short (c0 :: c1 :: t) = if isD c0 = true then (if isD c1 = true then some (valueL [c0, c1], t) else some (valueL [c0], c1 :: t)) else none := by
  unfold short
  have e : ∀ (c : UInt8) (u : List UInt8), num 1 0 (c :: u) = if isD c = true then some (10 * 0 + ((c.toNat : Int) - 48), u) else none := fun c u => rfl
  rw [e]
  by_cases h0 : isD c0 = true
  · rw [if_pos h0, if_pos h0]
    by_cases h1 : isD c1 = true
    · rw [if_pos h1]
      simp only []
      rw [if_pos (show headD (c1 :: t) = true from h1), e, if_pos h1]
      simp [valueL, isD_sub h0, isD_sub h1]
    · rw [if_neg h1]
      simp only []
      rw [if_neg (show ¬ headD (c1 :: t) = true from h1)]
      simp [valueL, isD_sub h0]
  · rw [if_neg h0, if_neg h0]

theorem day_same (l : List UInt8) : fullR (ruleDay l) = refDayC l := by
  by_cases h10 : l.length = 10
  · match l, h10 with
    | c0 :: c1 :: t, h10 =>
      have ht : t.length = 8 := by simpa using h10
      have hn : (if (c0 :: c1 :: t).length = 11 then 2 else 1) = 1 := if_neg (by simp; omega)
      rw [ruleDay_rest, short_eq]
      unfold refDayC
      rw [hn]
      simp only [List.take_succ_cons, List.take_zero, List.drop_succ_cons, List.drop_zero, List.getD_cons_succ, List.getD_cons_zero, Nat.reduceAdd, h10, ne_eq, not_true_eq_false, false_or]
      by_cases h0 : isD c0 = true
      · rw [if_pos h0]
        have hl : likeL [c0] [48] = true := by simp [likeL, likeB_dig, h0]
        simp only [hl, Bool.true_eq_false, false_or]
        by_cases h1 : isD c1 = true
        · rw [if_pos h1]
          simp only [Option.bind_some]
          have hne : c1 ≠ 45 := by rintro rfl; revert h1; decide
          rw [if_pos (Or.inl hne)]
          rcases hr : rest9 t with _ | ⟨q, r⟩
          · rfl
          · have := rest9_len hr; omega
        · rw [if_neg h1]
          simp only [Option.bind_some]
          rw [rest9_eq _ (by simp; omega)]
          simp only [List.take_succ_cons, List.take_zero, List.drop_succ_cons, List.drop_zero, List.getD_cons_succ, List.getD_cons_zero]
          by_cases hc : c1 = 45 ∧ 0 ≤ plL 12 0 monthsL (t.take 3) ∧ likeL (t.drop 3) [45, 48, 48, 48, 48] = true
          · rw [if_pos hc, if_neg (by rintro (h | h | h); exact h hc.1; omega; rw [hc.2.2] at h; cases h)]
            rfl
          · rw [if_neg hc, if_pos (by
              by_cases a : c1 = 45
              · by_cases b : 0 ≤ plL 12 0 monthsL (t.take 3)
                · exact .inr (.inr (Bool.eq_false_iff.2 fun h => hc ⟨a, b, h⟩))
                · exact .inr (.inl (by omega))
              · exact .inl a)]
            rfl
      · rw [if_neg h0]
        have hl : likeL [c0] [48] = false := by simp [likeL, likeB_dig, h0]
        rw [if_pos (.inl hl)]
        rfl
  · by_cases h11 : l.length = 11
    · match l, h11 with
      | c0 :: c1 :: t, h11 =>
        have ht : t.length = 9 := by simpa using h11
        have hn : (if (c0 :: c1 :: t).length = 11 then 2 else 1) = 2 := if_pos h11
        rw [ruleDay_rest, short_eq]
        unfold refDayC
        rw [hn]
        simp only [List.take_succ_cons, List.take_zero, List.drop_succ_cons, List.drop_zero, List.getD_cons_succ, List.getD_cons_zero, Nat.reduceAdd, h11, ne_eq, not_true_eq_false, false_or]
        by_cases h0 : isD c0 = true
        · rw [if_pos h0]
          by_cases h1 : isD c1 = true
          · rw [if_pos h1]
            have hl : likeL [c0, c1] [48, 48] = true := by simp [likeL, likeB_dig, h0, h1]
            simp only [hl, Bool.true_eq_false, false_or, Option.bind_some]
            rw [rest9_eq _ ht]
            have hg : t.getD 0 0 = t.getD 0 0 := rfl
            by_cases hc : t.getD 0 0 = 45 ∧ 0 ≤ plL 12 0 monthsL ((t.drop 1).take 3) ∧ likeL (t.drop 4) [45, 48, 48, 48, 48] = true
            · rw [if_pos hc, if_neg (by rintro (h | h | h); exact h hc.1; omega; rw [hc.2.2] at h; cases h)]
              rfl
            · rw [if_neg hc, if_pos (by
                by_cases a : t.getD 0 0 = 45
                · by_cases b : 0 ≤ plL 12 0 monthsL ((t.drop 1).take 3)
                  · exact .inr (.inr (Bool.eq_false_iff.2 fun h => hc ⟨a, b, h⟩))
                  · exact .inr (.inl (by omega))
                · exact .inl a)]
              rfl
          · rw [if_neg h1]
            have hl : likeL [c0, c1] [48, 48] = false := by simp [likeL, likeB_dig, h0, h1]
            rw [if_pos (.inl hl)]
            simp only [Option.bind_some]
            rcases hr : rest9 (c1 :: t) with _ | ⟨q, r⟩
            · rfl
            · have := rest9_len hr
              cases r with
              | nil => simp at this; omega
              | cons x r => rfl
        · rw [if_neg h0]
          have hl : likeL [c0, c1] [48, 48] = false := by simp [likeL, likeB_dig, h0]
          rw [if_pos (.inl hl)]
          rfl
    · have hn : refDayC l = none := by
        unfold refDayC
        rw [if_neg h11, if_pos (.inl (by omega))]
      rw [hn, ruleDay_rest]
      match l with
      | [] => rfl
      | [c] =>
        have e : short [c] = if isD c = true then some (10 * 0 + ((c.toNat : Int) - 48), []) else none := by
          by_cases h : isD c = true <;> simp [short, num, h, headD]
        rw [e]
        by_cases h : isD c = true
        · rw [if_pos h]; rfl
        · rw [if_neg h]; rfl
      | c0 :: c1 :: t =>
        rw [short_eq]
        simp only [List.length_cons] at h10 h11
        by_cases h0 : isD c0 = true
        · rw [if_pos h0]
          by_cases h1 : isD c1 = true
          · rw [if_pos h1]
            simp only [Option.bind_some]
            rcases hr : rest9 t with _ | ⟨q, r⟩
            · rfl
            · have := rest9_len hr
              cases r with
              | nil => simp at this; omega
              | cons x r => rfl
          · rw [if_neg h1]
            simp only [Option.bind_some]
            rcases hr : rest9 (c1 :: t) with _ | ⟨q, r⟩
            · rfl
            · have := rest9_len hr
              cases r with
              | nil => simp at this; omega
              | cons x r => rfl
        · rw [if_neg h0]; rfl

/-- what stands behind the day of IMAP's moment -/
def restI (l : List UInt8) : Option (((Int × Int) × (Int × Int × Int) × Int) × List UInt8) :=
  (lit [45] l).bind fun r1 => (nm 12 0 monthsL r1).bind fun q2 => (lit [45] q2.2).bind fun r3 => (num 4 0 r3).bind fun q4 => (lit [32] q4.2).bind fun r5 => (num 2 0 r5).bind fun q6 => (lit [58] q6.2).bind fun r7 => (num 2 0 r7).bind fun q8 => (lit [58] q8.2).bind fun r9 => (num 2 0 r9).bind fun q10 => (lit [32] q10.2).bind fun r11 => (zone r11).bind fun q12 => some (((q4.1, q2.1 + 1), (q6.1, q8.1, q10.1), q12.1), q12.2)
def firstI (l : List UInt8) : Option (Int × List UInt8) := if ([32] : List UInt8).isPrefixOf l = true then num 1 0 (skip [32] l) else (num 2 0 (skip [32] l)).bind fun q => if 10 ≤ q.1 then some q else none
theorem ruleInternal_rest (l : List UInt8) : ruleInternal l = (firstI l).bind fun q0 => (restI q0.2).bind fun q => some (((q.1.1.1, q.1.1.2, q0.1, q.1.2.1.1, q.1.2.1.2.1, q.1.2.1.2.2), q.1.2.2), q.2) := by
  unfold ruleInternal restI firstI
  simp only [Option.bind_assoc, Option.bind_some]
  rfl
theorem restI_len {l r : List UInt8} {q} (h : restI l = some (q, r)) : l.length = 24 + r.length := by
  unfold restI at h
  simp only [Option.bind_eq_some_iff] at h
  obtain ⟨r1, h1, q2, h2, r3, h3, q4, h4, r5, h5, q6, h6, r7, h7, q8, h8, r9, h9, q10, h10, r11, h11, q12, h12, h⟩ := h
  obtain ⟨_, rfl⟩ := Prod.mk.inj (Option.some.inj h)
  have a1 := lit_len3 h1
  have a2 := nm_len (by decide) (show nm 12 0 monthsL r1 = some (q2.1, q2.2) from h2)
  have a3 := lit_len3 h3
  have a4 := num_len (show num 4 0 r3 = some (q4.1, q4.2) from h4)
  have a5 := lit_len3 h5
  have a6 := num_len (show num 2 0 r5 = some (q6.1, q6.2) from h6)
  have a7 := lit_len3 h7
  have a8 := num_len (show num 2 0 r7 = some (q8.1, q8.2) from h8)
  have a9 := lit_len3 h9
  have a10 := num_len (show num 2 0 r9 = some (q10.1, q10.2) from h10)
  have a11 := lit_len3 h11
  have a12 := zone_len (show zone r11 = some (q12.1, q12.2) from h12)
  simp at a1 a3 a5 a7 a9 a11
  omega
theorem firstI_len {l r : List UInt8} {v : Int} (h : firstI l = some (v, r)) : l.length = 2 + r.length := by
  unfold firstI at h
  split at h
  · rename_i hp
    have := num_len h
    unfold skip at this
    rw [if_pos hp] at this
    have hp2 := congrArg List.length (pre_take.1 hp)
    simp at this hp2
    omega
  · rename_i hp
    unfold skip at h
    rw [if_neg hp] at h
    rcases hn : num 2 0 l with _ | ⟨x, r1⟩
    · rw [hn] at h; cases h
    · rw [hn] at h
      simp only [Option.bind_some] at h
      split at h
      · obtain ⟨rfl, rfl⟩ := Prod.mk.inj (Option.some.inj h)
        exact num_len hn
      · cases h

def patI : List UInt8 := [45, 48, 48, 48, 48, 32, 48, 48, 58, 48, 48, 58, 48, 48, 32]
theorem likeI (s : List UInt8) : likeL s patI = (likeL (s.take 1) [45] && (likeL ((s.drop 1).take 4) [48, 48, 48, 48] && (likeL ((s.drop 5).take 1) [32] && (likeL ((s.drop 6).take 2) [48, 48] && (likeL ((s.drop 8).take 1) [58] && (likeL ((s.drop 9).take 2) [48, 48] && (likeL ((s.drop 11).take 1) [58] && (likeL ((s.drop 12).take 2) [48, 48] && likeL (s.drop 14) [32])))))))) := by
  have e : patI = [45] ++ ([48, 48, 48, 48] ++ ([32] ++ ([48, 48] ++ ([58] ++ ([48, 48] ++ ([58] ++ ([48, 48] ++ [32]))))))) := rfl
  rw [e, likeL_append, likeL_append, likeL_append, likeL_append, likeL_append, likeL_append, likeL_append, likeL_append]
  simp only [List.drop_drop, List.length_cons, List.length_nil, Nat.reduceAdd, Nat.zero_add]

theorem restI_eq (l : List UInt8) (h : l.length = 24) : restI l = if l.getD 0 0 = 45 ∧ 0 ≤ plL 12 0 monthsL ((l.drop 1).take 3) ∧ likeL ((l.drop 4).take 15) patI = true then
    (zoneR (l.drop 19)).bind fun z => some (((valueL ((l.drop 5).take 4), plL 12 0 monthsL ((l.drop 1).take 3) + 1), (valueL ((l.drop 10).take 2), valueL ((l.drop 13).take 2), valueL ((l.drop 16).take 2)), z), []) else none := by
  match l, h with
  | [d0, d1, d2, d3, d4, d5, d6, d7, d8, d9, d10, d11, d12, d13, d14, d15, d16, d17, d18, d19, d20, d21, d22, d23], _ =>
    unfold restI
    rw [likeI]
    simp only [lit_eq, nmM, num_value, bind_ite, List.length_cons, List.length_nil, List.take_succ_cons, List.take_zero, List.drop_succ_cons, List.drop_zero, List.take_nil, List.drop_nil, List.getD_cons_zero, List.replicate_succ, List.replicate_zero, ite_both, like1 _ (show (45 : UInt8) ≠ 48 by decide), like1 _ (show (32 : UInt8) ≠ 48 by decide), like1 _ (show (58 : UInt8) ≠ 48 by decide), Nat.zero_add, Bool.and_eq_true, beq_iff_eq, List.cons.injEq, and_true]
    rw [zoneR_eq _ (by rfl)]
    congr 1
    rcases zoneR [d19, d20, d21, d22, d23] with _ | z <;> rfl

/-- IMAP's moment as the reference reads it -/
def refInternalC (l : List UInt8) : Option RuleD :=
  if l.length ≠ 26 then none
  else (zoneR (l.drop 21)).bind fun z =>
    if (likeL (l.take 2) [32, 48] || (likeL (l.take 2) [48, 48] && l.headD 0 != 48)) = true ∧ 0 ≤ plL 12 0 monthsL ((l.drop 3).take 3) ∧ l.getD 2 0 = 45 ∧ likeL ((l.drop 6).take 15) patI = true then
      some ((valueL ((l.drop 7).take 4), plL 12 0 monthsL ((l.drop 3).take 3) + 1, valueL (if l.headD 0 = 32 then (l.take 2).drop 1 else l.take 2), valueL ((l.drop 12).take 2), valueL ((l.drop 15).take 2), valueL ((l.drop 18).take 2)), z)
    else none

theorem isD_ne {c : UInt8} (h : isD c = true) : 48 ≤ c.toNat ∧ c.toNat ≤ 57 := by unfold isD at h; simp at h; exact h
theorem like2 (a b p : UInt8) (hp : p ≠ 48) : likeL [a, b] [p, 48] = (a == p && isD b) := by
  simp [likeL, likeB_lit hp, likeB_dig]
theorem like22 (a b : UInt8) : likeL [a, b] [48, 48] = (isD a && isD b) := by simp [likeL, likeB_dig]
theorem firstI_eq (c0 c1 : UInt8) (t : List UInt8) : firstI (c0 :: c1 :: t) = if (likeL [c0, c1] [32, 48] || (likeL [c0, c1] [48, 48] && c0 != 48)) = true then some (valueL (if c0 = 32 then [c1] else [c0, c1]), t) else none := by
  rw [like2 _ _ _ (by decide), like22]
  unfold firstI
  by_cases h32 : c0 = 32
  · subst h32
    have hp : ([32] : List UInt8).isPrefixOf (32 :: c1 :: t) = true := rfl
    rw [if_pos hp]
    unfold skip
    rw [if_pos hp, show (32 :: c1 :: t).drop ([32] : List UInt8).length = c1 :: t from rfl, num_value]
    simp only [List.take_succ_cons, List.take_zero, List.drop_succ_cons, List.drop_zero, List.replicate_succ, List.replicate_zero]
    rw [show likeL [c1] [48] = isD c1 by simp [likeL, likeB_dig], show isD 32 = false from rfl]
    simp
  · have hp : ¬ ([32] : List UInt8).isPrefixOf (c0 :: c1 :: t) = true := by
      intro h; have := pre_take.1 h; simp at this; exact h32 this
    rw [if_neg hp]
    unfold skip
    rw [if_neg hp, num_value]
    simp only [List.take_succ_cons, List.take_zero, List.drop_succ_cons, List.drop_zero, List.replicate_succ, List.replicate_zero]
    rw [like22, if_neg h32]
    have hb : (c0 == 32) = false := by simpa using h32
    rw [hb, Bool.false_and, Bool.false_or]
    by_cases h0 : isD c0 = true
    · by_cases h1 : isD c1 = true
      · have i0 := isD_ne h0
        have i1 := isD_ne h1
        have hv : valueL [c0, c1] = 10 * ((c0.toNat : Int) - 48) + ((c1.toNat : Int) - 48) := by simp [valueL, isD_sub h0, isD_sub h1]
        rw [h0, h1]
        simp only [Bool.and_self, if_true, Option.bind_some, Bool.true_and]
        rw [hv]
        by_cases h48 : c0 = 48
        · subst h48
          rw [if_neg (by rw [show ((48 : UInt8).toNat : Int) = 48 from rfl]; omega)]
          rfl
        · have : c0.toNat ≠ 48 := fun e => h48 (UInt8.toNat_inj.1 (by rw [show (48 : UInt8).toNat = 48 from rfl]; omega))
          rw [if_pos (by omega), if_pos (by simpa using h48)]
      · simp [h1]
    · simp [h0]

theorem internal_same (l : List UInt8) : fullR (ruleInternal l) = refInternalC l := by
  rw [ruleInternal_rest]
  by_cases h26 : l.length = 26
  · match l, h26 with
    | c0 :: c1 :: t, h26 =>
      have ht : t.length = 24 := by simpa using h26
      rw [firstI_eq]
      unfold refInternalC
      rw [if_neg (show ¬ (c0 :: c1 :: t).length ≠ 26 from fun h => h h26)]
      simp only [List.take_succ_cons, List.take_zero, List.drop_succ_cons, List.drop_zero, List.getD_cons_succ, List.headD_cons]
      by_cases hd : (likeL [c0, c1] [32, 48] || (likeL [c0, c1] [48, 48] && c0 != 48)) = true
      · rw [if_pos hd]
        simp only [Option.bind_some, hd, true_and]
        rw [restI_eq t ht]
        by_cases hc : t.getD 0 0 = 45 ∧ 0 ≤ plL 12 0 monthsL ((t.drop 1).take 3) ∧ likeL ((t.drop 4).take 15) patI = true
        · rw [if_pos hc]
          simp only [if_pos (show 0 ≤ plL 12 0 monthsL ((t.drop 1).take 3) ∧ t.getD 0 0 = 45 ∧ likeL ((t.drop 4).take 15) patI = true from ⟨hc.2.1, hc.1, hc.2.2⟩)]
          rcases zoneR (t.drop 19) with _ | z <;> rfl
        · rw [if_neg hc]
          simp only [if_neg (show ¬ (0 ≤ plL 12 0 monthsL ((t.drop 1).take 3) ∧ t.getD 0 0 = 45 ∧ likeL ((t.drop 4).take 15) patI = true) from fun h => hc ⟨h.2.1, h.1, h.2.2⟩)]
          rcases zoneR (t.drop 19) with _ | z <;> rfl
      · rw [if_neg hd]
        simp only [Option.bind_none, hd, false_and, if_false]
        rcases zoneR (t.drop 19) with _ | z <;> rfl
  · have hn : refInternalC l = none := if_pos h26
    rw [hn]
    rcases hf : firstI l with _ | ⟨v, r⟩
    · rfl
    · have h1 := firstI_len hf
      simp only [Option.bind_some]
      rcases hr : restI r with _ | ⟨q, r2⟩
      · rfl
      · have h2 := restI_len hr
        cases r2 with
        | nil => simp at h2; omega
        | cons x r2 => rfl

/-! ### A date field's words -/

/-- words one behind the other, a blank between -/
def joinB : List (List UInt8) → List UInt8
  | [] => []
  | [w] => w
  | w :: v :: ws => w ++ 32 :: joinB (v :: ws)
theorem joinB_cons (w : List UInt8) {ws : List (List UInt8)} (h : ws ≠ []) : joinB (w :: ws) = w ++ 32 :: joinB ws := by
  cases ws with
  | nil => exact absurd rfl h
  | cons v ws => rfl
/-- behind a word: nothing, or a blank -/
def Edge (t : List UInt8) : Prop := t = [] ∨ ∃ u, t = 32 :: u
theorem join_edge (w : List UInt8) (ws : List (List UInt8)) : ∃ t, joinB (w :: ws) = w ++ t ∧ Edge t ∧ (ws = [] → t = []) ∧ (ws ≠ [] → t = 32 :: joinB ws) := by
  by_cases h : ws = []
  · subst h; exact ⟨[], by simp [joinB], .inl rfl, fun _ => rfl, fun h => absurd rfl h⟩
  · exact ⟨_, joinB_cons w h, .inr ⟨_, rfl⟩, fun h' => absurd h' h, fun _ => rfl⟩

/-- a reader that does not see past a blank -/
def Loc {α : Type} (p : List UInt8 → Option (α × List UInt8)) : Prop := ∀ w t, Edge t → p (w ++ t) = (p w).map fun q => (q.1, q.2 ++ t)
/-- what is left is the text's end -/
def Sfx {α : Type} (p : List UInt8 → Option (α × List UInt8)) : Prop := ∀ l v r, p l = some (v, r) → ∃ u, l = u ++ r
def full {α : Type} (p : List UInt8 → Option (α × List UInt8)) (w : List UInt8) : Option α := match p w with
  | some (v, []) => some v
  | _ => none

theorem edge_dig {t : List UInt8} (h : Edge t) : headD t = false := by
  rcases h with rfl | ⟨u, rfl⟩ <;> rfl
theorem num_loc : ∀ (k : Nat) (n : Int), Loc (num k n)
  | 0, n, w, t, _ => rfl
  | k + 1, n, [], t, h => by
    rcases h with rfl | ⟨u, rfl⟩
    · rfl
    · show (if isD 32 = true then _ else none) = _; rw [if_neg (by decide)]; rfl
  | k + 1, n, c :: w, t, h => by
    show (if isD c = true then num k _ (w ++ t) else none) = Option.map _ (if isD c = true then num k _ w else none)
    by_cases hc : isD c = true
    · rw [if_pos hc, if_pos hc]; exact num_loc k _ w t h
    · rw [if_neg hc, if_neg hc]; rfl
theorem num_sfx : ∀ (k : Nat) (n : Int), Sfx (num k n)
  | 0, n, l, v, r, h => by obtain ⟨_, rfl⟩ := Prod.mk.inj (Option.some.inj h); exact ⟨[], rfl⟩
  | k + 1, n, [], v, r, h => by cases h
  | k + 1, n, c :: l, v, r, h => by
    have h' : (if isD c = true then num k (10 * n + ((c.toNat : Int) - 48)) l else none) = some (v, r) := h
    split at h'
    · obtain ⟨u, rfl⟩ := num_sfx k _ l v r h'
      exact ⟨c :: u, rfl⟩
    · cases h'
theorem short_loc : Loc short := by
  intro w t h
  match w with
  | [] =>
    rcases h with rfl | ⟨u, rfl⟩
    · rfl
    · rfl
  | [c] =>
    rcases h with rfl | ⟨u, rfl⟩
    · rw [List.append_nil]; rcases short [c] with _ | ⟨v, r⟩ <;> simp
    · rw [List.cons_append, List.nil_append, short_eq]
      have e : short [c] = if isD c = true then some (valueL [c], []) else none := by
        by_cases h : isD c = true <;> simp [short, num, h, headD, valueL, isD_sub]
      rw [e]
      by_cases hc : isD c = true
      · rw [if_pos hc, if_pos hc, if_neg (by decide)]; rfl
      · rw [if_neg hc, if_neg hc]; rfl
  | c :: d :: w =>
    rw [List.cons_append, List.cons_append, short_eq, short_eq]
    by_cases hc : isD c = true
    · rw [if_pos hc, if_pos hc]
      by_cases hd : isD d = true
      · rw [if_pos hd, if_pos hd]; rfl
      · rw [if_neg hd, if_neg hd]; rfl
    · rw [if_neg hc, if_neg hc]; rfl
theorem short_sfx : Sfx short := by
  intro l v r h
  match l with
  | [] => cases h
  | [c] =>
    have e : short [c] = if isD c = true then some (valueL [c], []) else none := by
      by_cases h : isD c = true <;> simp [short, num, h, headD, valueL, isD_sub]
    rw [e] at h
    split at h
    · obtain ⟨_, rfl⟩ := Prod.mk.inj (Option.some.inj h); exact ⟨[c], rfl⟩
    · cases h
  | c :: d :: w =>
    rw [short_eq] at h
    split at h
    · split at h
      · obtain ⟨_, rfl⟩ := Prod.mk.inj (Option.some.inj h); exact ⟨[c, d], rfl⟩
      · obtain ⟨_, rfl⟩ := Prod.mk.inj (Option.some.inj h); exact ⟨[c], rfl⟩
    · cases h
theorem pre_loc : ∀ (p w t : List UInt8), (32 : UInt8) ∉ p → Edge t → p.isPrefixOf (w ++ t) = p.isPrefixOf w
  | [], w, t, _, _ => by cases w <;> cases t <;> rfl
  | a :: p, [], t, hp, h => by
    rcases h with rfl | ⟨u, rfl⟩
    · rfl
    · have : (a == 32) = false := by
        rw [beq_eq_false_iff_ne]; intro e; exact hp (by rw [e]; exact List.mem_cons_self)
      show (a == 32 && _) = false
      rw [this]; rfl
  | a :: p, c :: w, t, hp, h => by
    show (a == c && p.isPrefixOf (w ++ t)) = (a == c && p.isPrefixOf w)
    rw [pre_loc p w t (fun h' => hp (List.mem_cons_of_mem _ h')) h]
theorem nm_loc : ∀ (k i : Nat) (m : List UInt8), (32 : UInt8) ∉ m → 3 * k ≤ m.length → Loc (nm k i m)
  | 0, _, _, _, _, w, t, _ => rfl
  | k + 1, i, m, hm, hl, w, t, h => by
    show (if (m.take 3).isPrefixOf (w ++ t) = true then _ else nm k (i + 1) (m.drop 3) (w ++ t)) = Option.map _ (if (m.take 3).isPrefixOf w = true then _ else nm k (i + 1) (m.drop 3) w)
    rw [pre_loc _ w t (fun h' => hm (List.mem_of_mem_take h')) h]
    by_cases hp : (m.take 3).isPrefixOf w = true
    · rw [if_pos hp, if_pos hp]
      have h3 := congrArg List.length (pre_take.1 hp)
      simp only [List.length_take] at h3
      simp only [Option.map_some]
      rw [List.drop_append_of_le_length (by omega)]
    · rw [if_neg hp, if_neg hp]
      exact nm_loc k (i + 1) (m.drop 3) (fun h' => hm (List.mem_of_mem_drop h')) (by rw [List.length_drop]; omega) w t h
theorem nm_sfx : ∀ (k i : Nat) (m : List UInt8), Sfx (nm k i m)
  | 0, _, _, _, _, _, h => by cases h
  | k + 1, i, m, l, v, r, h => by
    have h' : (if (m.take 3).isPrefixOf l = true then some ((i : Int), l.drop 3) else nm k (i + 1) (m.drop 3) l) = some (v, r) := h
    split at h'
    · obtain ⟨_, rfl⟩ := Prod.mk.inj (Option.some.inj h')
      exact ⟨l.take 3, (List.take_append_drop _ _).symm⟩
    · exact nm_sfx k (i + 1) (m.drop 3) l v r h'
theorem zoneNum_loc (s : Int) : Loc (zoneNum s) := by
  intro w t h
  unfold zoneNum
  rw [num_loc 2 0 w t h]
  rcases num 2 0 w with _ | ⟨x, r⟩
  · rfl
  · simp only [Option.map_some]
    rw [num_loc 2 0 r t h]
    rcases num 2 0 r with _ | ⟨y, r2⟩
    · rfl
    · simp only [Option.map_some]
      split <;> rfl
theorem zone_cons (c : UInt8) (t : List UInt8) : zone (c :: t) = if c = 43 then zoneNum 1 t else if c = 45 then zoneNum (-1) t else none := rfl
theorem zone_loc : Loc zone := by
  intro w t h
  cases w with
  | nil =>
    rcases h with rfl | ⟨u, rfl⟩
    · rfl
    · rw [List.nil_append, zone_cons, if_neg (by decide), if_neg (by decide)]; rfl
  | cons c w =>
    rw [List.cons_append, zone_cons, zone_cons]
    split
    · exact zoneNum_loc _ w t h
    · split
      · exact zoneNum_loc _ w t h
      · rfl

/-- a reader, and a blank: a whole word -/
theorem word_step {α β : Type} {p : List UInt8 → Option (α × List UInt8)} (hl : Loc p) (hs : Sfx p) (w : List UInt8) (hw : (32 : UInt8) ∉ w) (ws : List (List UInt8)) (f : α → List UInt8 → Option β) :
    ((p (joinB (w :: ws))).bind fun q => (lit [32] q.2).bind fun r => f q.1 r) = if ws = [] then none else (full p w).bind fun v => f v (joinB ws) := by
  obtain ⟨t, e, he, h0, h1⟩ := join_edge w ws
  rw [e, hl w t he]
  unfold full
  rcases hp : p w with _ | ⟨v, r⟩
  · simp
  · simp only [Option.map_some, Option.bind_some]
    obtain ⟨u, hu⟩ := hs w v r hp
    cases r with
    | cons c r =>
      have hc : c ≠ 32 := by
        rintro rfl
        exact hw (by rw [hu]; simp)
      rw [lit_eq, if_neg (by simpa using hc)]
      split <;> rfl
    | nil =>
      by_cases hws : ws = []
      · rw [if_pos hws, h0 hws]; rfl
      · rw [if_neg hws, h1 hws]
        show (lit [32] (32 :: joinB ws)).bind _ = _
        rw [lit_eq, if_pos (by rfl)]
        rfl

/-- a clock's time -/
def timeP (l : List UInt8) : Option ((Int × Int × Int) × List UInt8) :=
  (num 2 0 l).bind fun q6 => (lit [58] q6.2).bind fun r7 => (num 2 0 r7).bind fun q8 => (if ([58] : List UInt8).isPrefixOf q8.2 = true then num 2 0 (skip [58] q8.2) else some (0, skip [58] q8.2)).bind fun q10 => some ((q6.1, q8.1, q10.1), q10.2)
theorem lit_loc (p : List UInt8) (hp : (32 : UInt8) ∉ p) (w t : List UInt8) (h : Edge t) : lit p (w ++ t) = (lit p w).map (· ++ t) := by
  unfold lit
  rw [pre_loc p w t hp h]
  by_cases hq : p.isPrefixOf w = true
  · rw [if_pos hq, if_pos hq]
    have h3 := congrArg List.length (pre_take.1 hq)
    simp only [List.length_take] at h3
    simp only [Option.map_some]
    rw [List.drop_append_of_le_length (by omega)]
  · rw [if_neg hq, if_neg hq]; rfl
theorem skip_loc (p : List UInt8) (hp : (32 : UInt8) ∉ p) (w t : List UInt8) (h : Edge t) : skip p (w ++ t) = skip p w ++ t := by
  unfold skip
  rw [pre_loc p w t hp h]
  by_cases hq : p.isPrefixOf w = true
  · rw [if_pos hq, if_pos hq]
    have h3 := congrArg List.length (pre_take.1 hq)
    simp only [List.length_take] at h3
    rw [List.drop_append_of_le_length (by omega)]
  · rw [if_neg hq, if_neg hq]
theorem time_loc : Loc timeP := by
  intro w t h
  unfold timeP
  rw [num_loc 2 0 w t h]
  rcases num 2 0 w with _ | ⟨x, r⟩
  · rfl
  simp only [Option.map_some, Option.bind_some]
  rw [lit_loc [58] (by decide) r t h]
  rcases lit [58] r with _ | r1
  · rfl
  simp only [Option.map_some, Option.bind_some]
  rw [num_loc 2 0 r1 t h]
  rcases num 2 0 r1 with _ | ⟨y, r2⟩
  · rfl
  simp only [Option.map_some, Option.bind_some]
  rw [pre_loc [58] r2 t (by decide) h, skip_loc [58] (by decide) r2 t h]
  split
  · rw [num_loc 2 0 _ t h]
    rcases num 2 0 (skip [58] r2) with _ | ⟨z, r3⟩ <;> rfl
  · rfl
theorem sfx_lit {p l r : List UInt8} (h : lit p l = some r) : ∃ u, l = u ++ r := by
  rw [lit_eq] at h
  split at h
  · obtain rfl := Option.some.inj h
    exact ⟨_, (List.take_append_drop _ _).symm⟩
  · cases h
theorem sfx_skip (p l : List UInt8) : ∃ u, l = u ++ skip p l := by
  unfold skip
  split
  · exact ⟨_, (List.take_append_drop _ _).symm⟩
  · exact ⟨[], rfl⟩
theorem time_sfx : Sfx timeP := by
  intro l v r h
  unfold timeP at h
  simp only [Option.bind_eq_some_iff] at h
  obtain ⟨q6, h6, r7, h7, q8, h8, q10, h10, h⟩ := h
  obtain ⟨_, rfl⟩ := Prod.mk.inj (Option.some.inj h)
  obtain ⟨u1, e1⟩ := num_sfx _ _ l q6.1 q6.2 h6
  obtain ⟨u2, e2⟩ := sfx_lit h7
  obtain ⟨u3, e3⟩ := num_sfx _ _ r7 q8.1 q8.2 h8
  obtain ⟨u4, e4⟩ := sfx_skip [58] q8.2
  have h5 : ∃ u, skip [58] q8.2 = u ++ q10.2 := by
    split at h10
    · exact num_sfx _ _ _ q10.1 q10.2 h10
    · obtain rfl := Option.some.inj h10
      exact ⟨[], rfl⟩
  obtain ⟨u5, e5⟩ := h5
  exact ⟨u1 ++ (u2 ++ (u3 ++ (u4 ++ u5))), by rw [e1, e2, e3, e4, e5]; simp⟩

/-- what stands behind the day's name -/
def mt4 (d m y : Int) (t : Int × Int × Int) (r : List UInt8) : Option (RuleD × List UInt8) := (zone r).bind fun q => some ((((y, m + 1, d, t.1, t.2.1, t.2.2), q.1) : RuleD), q.2)
def mt3 (d m y : Int) (r : List UInt8) : Option (RuleD × List UInt8) := (timeP r).bind fun q => (lit [32] q.2).bind fun r => mt4 d m y q.1 r
def mt2 (d m : Int) (r : List UInt8) : Option (RuleD × List UInt8) := (num 4 0 r).bind fun q => (lit [32] q.2).bind fun r => mt3 d m q.1 r
def mt1 (d : Int) (r : List UInt8) : Option (RuleD × List UInt8) := (nm 12 0 monthsL r).bind fun q => (lit [32] q.2).bind fun r => mt2 d q.1 r
def mailTail (l0 : List UInt8) : Option (RuleD × List UInt8) := (short l0).bind fun q => (lit [32] q.2).bind fun r => mt1 q.1 r
theorem ruleMail_tail (l : List UInt8) : ruleMail l = (mailDay l).bind mailTail := by
  unfold ruleMail mailTail mt1 mt2 mt3 mt4 timeP
  simp only [Option.bind_assoc, Option.bind_some]
def tailC : List (List UInt8) → Option RuleD
  | [w0, w1, w2, w3, w4] => (full short w0).bind fun d => (full (nm 12 0 monthsL) w1).bind fun m => (full (num 4 0) w2).bind fun y => (full timeP w3).bind fun t => (full zone w4).bind fun z => some ((y, m + 1, d, t.1, t.2.1, t.2.2), z)
  | _ => none
theorem fullR_bind {α : Type} (o : Option α) (f : α → Option (RuleD × List UInt8)) : fullR (o.bind f) = o.bind fun a => fullR (f a) := by
  cases o <;> rfl
theorem bind_none2 {α β : Type} (o : Option α) : (o.bind fun _ => (none : Option β)) = none := by cases o <;> rfl
theorem fullR_zone (w : List UInt8) (ws : List (List UInt8)) (d : Int → RuleD) :
    fullR ((zone (joinB (w :: ws))).bind fun q => some (d q.1, q.2)) = if ws = [] then (full zone w).bind fun z => some (d z) else none := by
  obtain ⟨t, e, he, h0, h1⟩ := join_edge w ws
  rw [e, zone_loc w t he]
  unfold full
  rcases hp : zone w with _ | ⟨v, r⟩
  · simp [fullR]
  · simp only [Option.map_some, Option.bind_some]
    by_cases hws : ws = []
    · rw [if_pos hws, h0 hws, List.append_nil]
      cases r <;> rfl
    · rw [if_neg hws, h1 hws]
      cases r <;> rfl
theorem tail_words (ws : List (List UInt8)) (hw : ∀ w ∈ ws, (32 : UInt8) ∉ w) : fullR (mailTail (joinB ws)) = tailC ws := by
  unfold mailTail
  match ws with
  | [] => rfl
  | w0 :: ws =>
    rw [word_step short_loc short_sfx w0 (hw w0 (by simp)) ws]
    match ws with
    | [] => rfl
    | w1 :: ws =>
      rw [if_neg (by simp), fullR_bind]
      have s1 : ∀ d, mt1 d (joinB (w1 :: ws)) = _ := fun d => word_step (nm_loc 12 0 monthsL (by decide) (by decide)) (nm_sfx 12 0 monthsL) w1 (hw w1 (by simp)) ws (mt2 d)
      simp only [s1]
      match ws with
      | [] => simp [fullR, tailC, bind_none2]
      | w2 :: ws =>
        simp only [if_neg (List.cons_ne_nil _ _), fullR_bind]
        have s2 : ∀ d m, mt2 d m (joinB (w2 :: ws)) = _ := fun d m => word_step (num_loc 4 0) (num_sfx 4 0) w2 (hw w2 (by simp)) ws (mt3 d m)
        simp only [s2]
        match ws with
        | [] => simp [fullR, tailC, bind_none2]
        | w3 :: ws =>
          simp only [if_neg (List.cons_ne_nil _ _), fullR_bind]
          have s3 : ∀ d m y, mt3 d m y (joinB (w3 :: ws)) = _ := fun d m y => word_step time_loc time_sfx w3 (hw w3 (by simp)) ws (mt4 d m y)
          simp only [s3]
          match ws with
          | [] => simp [fullR, tailC, bind_none2]
          | w4 :: ws =>
            simp only [if_neg (List.cons_ne_nil _ _), fullR_bind]
            have s4 : ∀ d m y, ∀ t : Int × Int × Int, fullR (mt4 d m y t (joinB (w4 :: ws))) = _ := fun d m y t => fullR_zone w4 ws (fun z => (((y, m + 1, d, t.1, t.2.1, t.2.2), z) : RuleD))
            simp only [s4]
            match ws with
            | [] => rfl
            | w5 :: ws => simp [tailC, bind_none2]

theorem full_short (w : List UInt8) : full short w = if likeL w [48] = true ∨ likeL w [48, 48] = true then some (valueL w) else none := by
  unfold full
  match w with
  | [] => rfl
  | [c] =>
    have e : short [c] = if isD c = true then some (valueL [c], []) else none := by
      by_cases h : isD c = true <;> simp [short, num, h, headD, valueL, isD_sub]
    rw [e, show likeL [c] [48] = isD c by simp [likeL, likeB_dig], show likeL [c] [48, 48] = false by simp [likeL]]
    by_cases h : isD c = true
    · rw [if_pos h, if_pos (.inl h)]
    · rw [if_neg h, if_neg (by simp [h])]
  | c :: d :: t =>
    rw [short_eq, show likeL (c :: d :: t) [48] = false by simp [likeL]]
    cases t with
    | nil =>
      rw [like22]
      by_cases h : isD c = true
      · by_cases k : isD d = true
        · rw [if_pos h, if_pos k, if_pos (.inr (by rw [h, k]; rfl))]
        · rw [if_pos h, if_neg k, if_neg (by simp [k])]
      · rw [if_neg h, if_neg (by simp [h])]
    | cons x t =>
      rw [show likeL (c :: d :: x :: t) [48, 48] = false by simp [likeL]]
      by_cases h : isD c = true
      · by_cases k : isD d = true <;> simp [h, k]
      · simp [h]
theorem full_months (w : List UInt8) : full (nm 12 0 monthsL) w = if 0 ≤ plL 12 0 monthsL w then some (plL 12 0 monthsL w) else none := by
  unfold full
  rw [nmM]
  by_cases h3 : w.length = 3
  · have e : w.take 3 = w := List.take_of_length_le (by omega)
    rw [e]
    by_cases h : 0 ≤ plL 12 0 monthsL w
    · rw [if_pos h, if_pos h, List.drop_eq_nil_of_le (by omega)]
    · rw [if_neg h, if_neg h]
  · have hn : ¬ 0 ≤ plL 12 0 monthsL w := fun h => h3 (plL_len 12 0 monthsL w (by decide) h)
    rw [if_neg hn]
    by_cases h : 0 ≤ plL 12 0 monthsL (w.take 3)
    · rw [if_pos h]
      have h5 := plL_len 12 0 monthsL _ (by decide) h
      rw [List.length_take] at h5
      cases hd : w.drop 3 with
      | nil =>
        have := congrArg List.length hd
        simp at this
        omega
      | cons x t => rfl
    · rw [if_neg h]
theorem full_num (k : Nat) (w : List UInt8) : full (num k 0) w = if likeL w (List.replicate k 48) = true then some (valueL w) else none := by
  unfold full
  rw [num_value]
  by_cases hk : w.length = k
  · have e : w.take k = w := List.take_of_length_le (by omega)
    rw [e]
    by_cases h : likeL w (List.replicate k 48) = true
    · rw [if_pos h, if_pos h, List.drop_eq_nil_of_le (by omega)]
    · rw [if_neg h, if_neg h]
  · have hn : ¬ likeL w (List.replicate k 48) = true := fun h => hk (by have := likeL_len2 h; simpa using this)
    rw [if_neg hn]
    by_cases h : likeL (w.take k) (List.replicate k 48) = true
    · rw [if_pos h]
      have h5 := likeL_len2 h
      simp at h5
      cases hd : w.drop k with
      | nil =>
        have := congrArg List.length hd
        simp at this
        omega
      | cons x t => rfl
    · rw [if_neg h]
theorem full_zone (w : List UInt8) : full zone w = zoneR w := by
  unfold full
  by_cases h5 : w.length = 5
  · rw [zoneR_eq w h5]
    rcases zoneR w with _ | z <;> rfl
  · have hn : zoneR w = none := by
      unfold zoneR
      rw [if_pos]
      exact ⟨Bool.eq_false_iff.2 fun h => h5 (by have := likeL_len2 h; simpa using this), Bool.eq_false_iff.2 fun h => h5 (by have := likeL_len2 h; simpa using this)⟩
    rw [hn]
    rcases h : zone w with _ | ⟨z, r⟩
    · rfl
    · have := zone_len h
      cases r with
      | nil => simp at this; omega
      | cons x r => rfl
def pat5 : List UInt8 := [48, 48, 58, 48, 48]
def pat8 : List UInt8 := [48, 48, 58, 48, 48, 58, 48, 48]
theorem time_len {l r : List UInt8} {v : Int × Int × Int} (h : timeP l = some (v, r)) : l.length = 5 + r.length ∨ l.length = 8 + r.length := by
  unfold timeP at h
  simp only [Option.bind_eq_some_iff] at h
  obtain ⟨q6, h6, r7, h7, q8, h8, q10, h10, h⟩ := h
  obtain ⟨_, rfl⟩ := Prod.mk.inj (Option.some.inj h)
  have a6 := num_len (show num 2 0 l = some (q6.1, q6.2) from h6)
  have a7 := lit_len3 h7
  have a8 := num_len (show num 2 0 r7 = some (q8.1, q8.2) from h8)
  simp at a7
  split at h10
  · rename_i hp
    have a10 := num_len (show num 2 0 _ = some (q10.1, q10.2) from h10)
    unfold skip at a10
    rw [if_pos hp] at a10
    have hp2 := congrArg List.length (pre_take.1 hp)
    simp at a10 hp2
    omega
  · rename_i hp
    obtain rfl := Option.some.inj h10
    unfold skip
    rw [if_neg hp]
    simp only
    omega
theorem full_time (w : List UInt8) : full timeP w = if likeL w pat5 = true ∨ likeL w pat8 = true then some (valueL (w.take 2), valueL ((w.drop 3).take 2), if w.length = 8 then valueL (w.drop 6) else 0) else none := by
  have p5 : ∀ s, likeL s pat5 = (likeL (s.take 2) [48, 48] && (likeL ((s.drop 2).take 1) [58] && likeL (s.drop 3) [48, 48])) := by
    intro s
    rw [show pat5 = [48, 48] ++ ([58] ++ [48, 48]) from rfl, likeL_append, likeL_append]
    simp only [List.drop_drop, List.length_cons, List.length_nil, Nat.reduceAdd, Nat.zero_add]
  have p8 : ∀ s, likeL s pat8 = (likeL (s.take 2) [48, 48] && (likeL ((s.drop 2).take 1) [58] && (likeL ((s.drop 3).take 2) [48, 48] && (likeL ((s.drop 5).take 1) [58] && likeL (s.drop 6) [48, 48])))) := by
    intro s
    rw [show pat8 = [48, 48] ++ ([58] ++ ([48, 48] ++ ([58] ++ [48, 48]))) from rfl, likeL_append, likeL_append, likeL_append, likeL_append]
    simp only [List.drop_drop, List.length_cons, List.length_nil, Nat.reduceAdd, Nat.zero_add]
  unfold full
  by_cases h5 : w.length = 5
  · have n8 : likeL w pat8 = false := Bool.eq_false_iff.2 fun h => by have := likeL_len2 h; simp [pat8] at this; omega
    rw [n8, if_neg (show ¬ w.length = 8 by omega), p5]
    simp only [Bool.false_eq_true, or_false]
    match w, h5 with
    | [c0, c1, c2, c3, c4], _ =>
      unfold timeP
      simp only [lit_eq, num_value, bind_ite, List.length_cons, List.length_nil, List.take_succ_cons, List.take_zero, List.drop_succ_cons, List.drop_zero, List.replicate_succ, List.replicate_zero, like1 _ (show (58 : UInt8) ≠ 48 by decide), Nat.zero_add]
      by_cases a : likeL [c0, c1] [48, 48] = true
      · by_cases b : c2 = 58
        · by_cases c : likeL [c3, c4] [48, 48] = true
          · subst b
            simp [a, c, skip]
          · simp [c]
        · simp [b]
      · simp [a]
  · by_cases h8 : w.length = 8
    · have n5 : likeL w pat5 = false := Bool.eq_false_iff.2 fun h => by have := likeL_len2 h; simp [pat5] at this; omega
      rw [n5, if_pos h8, p8]
      simp only [Bool.false_eq_true, false_or]
      match w, h8 with
      | [c0, c1, c2, c3, c4, c5, c6, c7], _ =>
        unfold timeP
        simp only [lit_eq, num_value, bind_ite, List.length_cons, List.length_nil, List.take_succ_cons, List.take_zero, List.drop_succ_cons, List.drop_zero, List.replicate_succ, List.replicate_zero, like1 _ (show (58 : UInt8) ≠ 48 by decide), Nat.zero_add]
        by_cases a : likeL [c0, c1] [48, 48] = true
        · by_cases b : c2 = 58
          · by_cases c : likeL [c3, c4] [48, 48] = true
            · subst b
              by_cases d : c5 = 58
              · subst d
                by_cases e : likeL [c6, c7] [48, 48] = true <;> simp [a, c, e, skip]
              · have d' : ¬ (58 : UInt8) = c5 := fun h => d h.symm
                simp [a, c, d, d', skip]
            · simp [c]
          · simp [b]
        · simp [a]
    · have n8 : likeL w pat8 = false := Bool.eq_false_iff.2 fun h => by have := likeL_len2 h; simp [pat8] at this; omega
      have n5 : likeL w pat5 = false := Bool.eq_false_iff.2 fun h => by have := likeL_len2 h; simp [pat5] at this; omega
      rw [n5, n8, if_neg (by simp)]
      rcases h : timeP w with _ | ⟨z, r⟩
      · rfl
      · have := time_len h
        cases r with
        | nil => simp at this; omega
        | cons x r => rfl

/-- the reference's reading of the five words -/
def refTailC : List (List UInt8) → Option RuleD
  | [w0, w1, w2, w3, w4] => if (likeL w0 [48] = true ∨ likeL w0 [48, 48] = true) ∧ 0 ≤ plL 12 0 monthsL w1 ∧ likeL w2 [48, 48, 48, 48] = true ∧ (likeL w3 pat5 = true ∨ likeL w3 pat8 = true) then
      (zoneR w4).bind fun z => some (((valueL w2, plL 12 0 monthsL w1 + 1, valueL w0, valueL (w3.take 2), valueL ((w3.drop 3).take 2), if w3.length = 8 then valueL (w3.drop 6) else 0), z) : RuleD) else none
  | _ => none
theorem refTailC_5 (w0 w1 w2 w3 w4 : List UInt8) : refTailC [w0, w1, w2, w3, w4] = if (likeL w0 [48] = true ∨ likeL w0 [48, 48] = true) ∧ 0 ≤ plL 12 0 monthsL w1 ∧ likeL w2 [48, 48, 48, 48] = true ∧ (likeL w3 pat5 = true ∨ likeL w3 pat8 = true) then
      (zoneR w4).bind fun z => some (((valueL w2, plL 12 0 monthsL w1 + 1, valueL w0, valueL (w3.take 2), valueL ((w3.drop 3).take 2), if w3.length = 8 then valueL (w3.drop 6) else 0), z) : RuleD) else none := rfl
theorem tail_ref (ws : List (List UInt8)) : tailC ws = refTailC ws := by
  match ws with
  | [] => rfl
  | [_] => rfl
  | [_, _] => rfl
  | [_, _, _] => rfl
  | [_, _, _, _] => rfl
  | _ :: _ :: _ :: _ :: _ :: _ :: _ => rfl
  | [w0, w1, w2, w3, w4] =>
    show ((full short w0).bind fun d => (full (nm 12 0 monthsL) w1).bind fun m => (full (num 4 0) w2).bind fun y => (full timeP w3).bind fun t => (full zone w4).bind fun z => some (((y, m + 1, d, t.1, t.2.1, t.2.2), z) : RuleD)) = (if (likeL w0 [48] = true ∨ likeL w0 [48, 48] = true) ∧ 0 ≤ plL 12 0 monthsL w1 ∧ likeL w2 [48, 48, 48, 48] = true ∧ (likeL w3 pat5 = true ∨ likeL w3 pat8 = true) then
      (zoneR w4).bind fun z => some (((valueL w2, plL 12 0 monthsL w1 + 1, valueL w0, valueL (w3.take 2), valueL ((w3.drop 3).take 2), if w3.length = 8 then valueL (w3.drop 6) else 0), z) : RuleD) else none)
    rw [full_short, full_months, full_num, full_time, full_zone]
    simp only [bind_ite, ite_both, List.replicate_succ, List.replicate_zero]

/-- behind the day's name: a comma -/
def commaC (v : List UInt8) (vs : List (List UInt8)) : Option RuleD := if v.headD 0 = 44 then refTailC (if v.drop 1 = [] then vs else v.drop 1 :: vs) else none
def commaN : List (List UInt8) → Option RuleD
  | [] => none
  | v :: vs => commaC v vs
/-- the reference's reading of a date field's words -/
def refMailC : List (List UInt8) → Option RuleD
  | [] => none
  | w0 :: ws => if 0 ≤ plL 7 0 daysL (w0.take 3) then (if w0.drop 3 = [] then commaN ws else commaC (w0.drop 3) ws) else refTailC (w0 :: ws)
theorem refMailC_cons (w0 : List UInt8) (ws : List (List UInt8)) : refMailC (w0 :: ws) = if 0 ≤ plL 7 0 daysL (w0.take 3) then (if w0.drop 3 = [] then commaN ws else commaC (w0.drop 3) ws) else refTailC (w0 :: ws) := rfl

theorem days_no (s : List UInt8) (h : 0 ≤ plL 7 0 daysL s) : headD s = false := by
  have e : plL 7 0 daysL s = if s = [83, 117, 110] then 0 else if s = [77, 111, 110] then 1 else if s = [84, 117, 101] then 2 else if s = [87, 101, 100] then 3 else if s = [84, 104, 117] then 4 else if s = [70, 114, 105] then 5 else if s = [83, 97, 116] then 6 else -1 := rfl
  rw [e] at h
  by_cases h0 : s = [83, 117, 110]; · rw [h0]; rfl
  by_cases h1 : s = [77, 111, 110]; · rw [h1]; rfl
  by_cases h2 : s = [84, 117, 101]; · rw [h2]; rfl
  by_cases h3 : s = [87, 101, 100]; · rw [h3]; rfl
  by_cases h4 : s = [84, 104, 117]; · rw [h4]; rfl
  by_cases h5 : s = [70, 114, 105]; · rw [h5]; rfl
  by_cases h6 : s = [83, 97, 116]; · rw [h6]; rfl
  rw [if_neg h0, if_neg h1, if_neg h2, if_neg h3, if_neg h4, if_neg h5, if_neg h6] at h
  exact absurd h (by decide)
theorem refTail_nodigit (w : List UInt8) (ws : List (List UInt8)) (h : headD w = false) : refTailC (w :: ws) = none := by
  match ws with
  | [] => rfl
  | [_] => rfl
  | [_, _] => rfl
  | [_, _, _] => rfl
  | _ :: _ :: _ :: _ :: _ :: _ => rfl
  | [w1, w2, w3, w4] =>
    rw [refTailC_5]
    refine if_neg ?_
    rintro ⟨h1, _⟩
    cases w with
    | nil => rcases h1 with h1 | h1 <;> cases h1
    | cons c w =>
      have hc : isD c = false := h
      rcases h1 with h1 | h1 <;> simp [likeL, likeB_dig, hc] at h1
theorem nmDays (l : List UInt8) : nm 7 0 daysL l = if 0 ≤ plL 7 0 daysL (l.take 3) then some (plL 7 0 daysL (l.take 3), l.drop 3) else none := nm_eq 7 0 daysL l (by decide)

theorem skip_no {c : UInt8} {l : List UInt8} (h : c ≠ 32) : skip [32] (c :: l) = c :: l := by
  unfold skip
  rw [if_neg]
  intro hp
  have := pre_take.1 hp
  simp at this
  exact h this
/-- behind the day's name: a comma -/
theorem comma_words (c : UInt8) (v : List UInt8) (vs : List (List UInt8)) (hc : c ≠ 32) (hv : (32 : UInt8) ∉ v) :
    ((lit [44] (skip [32] (joinB ((c :: v) :: vs)))).bind fun r => some (skip [32] r)) = if c = 44 then some (joinB (if v = [] then vs else v :: vs)) else none := by
  obtain ⟨t, e, he, h0, h1⟩ := join_edge (c :: v) vs
  rw [e, List.cons_append, skip_no hc, lit_eq]
  simp only [List.length_cons, List.length_nil, Nat.zero_add, List.take_succ_cons, List.take_zero, List.drop_succ_cons, List.drop_zero, List.cons.injEq, and_true, bind_ite]
  by_cases h44 : c = 44
  · rw [if_pos h44, if_pos h44]
    congr 1
    cases v with
    | nil =>
      rw [if_pos rfl, List.nil_append]
      by_cases hvn : vs = []
      · rw [h0 hvn, hvn]; rfl
      · rw [h1 hvn]; rfl
    | cons d v =>
      rw [if_neg (by simp), List.cons_append, skip_no (by rintro rfl; exact hv (by simp))]
      obtain ⟨t2, e2, _, h02, h12⟩ := join_edge (d :: v) vs
      by_cases hvn : vs = []
      · rw [h0 hvn, e2, h02 hvn]; rfl
      · rw [h1 hvn, e2, h12 hvn]; rfl
  · rw [if_neg h44, if_neg h44]

theorem mail_same (ws : List (List UInt8)) (hw : ∀ w ∈ ws, w ≠ [] ∧ (32 : UInt8) ∉ w) : fullR (ruleMail (joinB ws)) = refMailC ws := by
  rw [ruleMail_tail]
  match ws with
  | [] => rfl
  | [] :: ws => exact absurd rfl (hw [] (by simp)).1
  | (c :: w) :: ws =>
    have hcw := (hw (c :: w) (by simp)).2
    have hws : ∀ v ∈ ws, (32 : UInt8) ∉ v := fun v hv => (hw v (List.mem_cons_of_mem _ hv)).2
    obtain ⟨t, e, he, h0, h1⟩ := join_edge (c :: w) ws
    have hall : ∀ v ∈ (c :: w) :: ws, (32 : UInt8) ∉ v := fun v hv => (hw v hv).2
    have hhead : headD (joinB ((c :: w) :: ws)) = isD c := by rw [e]; rfl
    unfold mailDay
    rw [hhead, refMailC_cons]
    by_cases hd : isD c = true
    · rw [if_pos hd]
      simp only [Option.bind_some]
      have hnd : ¬ 0 ≤ plL 7 0 daysL ((c :: w).take 3) := by
        intro h
        have := days_no _ h
        rw [show headD ((c :: w).take 3) = isD c from rfl, hd] at this
        cases this
      rw [if_neg hnd, tail_words _ hall, tail_ref]
    · rw [if_neg hd, e, nm_loc 7 0 daysL (by decide) (by decide) (c :: w) t he, nmDays]
      by_cases hp : 0 ≤ plL 7 0 daysL ((c :: w).take 3)
      · rw [if_pos hp, if_pos hp]
        simp only [Option.map_some, Option.bind_some]
        have hl3 := plL_len 7 0 daysL _ (by decide) hp
        rw [List.length_take] at hl3
        cases hr : (c :: w).drop 3 with
        | nil =>
          rw [if_pos rfl]
          cases ws with
          | nil => rw [h0 rfl]; rfl
          | cons v vs =>
            rw [h1 (by simp)]
            cases v with
            | nil => exact absurd rfl (hw [] (by simp)).1
            | cons d v =>
              have hdv := hws (d :: v) (by simp)
              have hs : skip [32] (([] : List UInt8) ++ 32 :: joinB ((d :: v) :: vs)) = joinB ((d :: v) :: vs) := rfl
              rw [hs]
              have hd32 : d ≠ 32 := by rintro rfl; exact hdv (by simp)
              have hns : skip [32] (joinB ((d :: v) :: vs)) = joinB ((d :: v) :: vs) := by
                obtain ⟨t2, e2, _⟩ := join_edge (d :: v) vs
                rw [e2]; exact skip_no hd32
              have hcm := comma_words d v vs hd32 (fun h => hdv (List.mem_cons_of_mem _ h))
              rw [hns] at hcm
              rw [hcm]
              show _ = commaC (d :: v) vs
              unfold commaC
              simp only [List.headD_cons, List.drop_succ_cons, List.drop_zero]
              by_cases h44 : d = 44
              · rw [if_pos h44, if_pos h44]
                simp only [Option.bind_some]
                rw [tail_words, tail_ref]
                intro x hx
                split at hx
                · exact hws x (List.mem_cons_of_mem _ hx)
                · rcases List.mem_cons.1 hx with rfl | hx
                  · exact fun h => hdv (List.mem_cons_of_mem _ h)
                  · exact hws x (List.mem_cons_of_mem _ hx)
              · rw [if_neg h44, if_neg h44]; rfl
        | cons d v =>
          rw [if_neg (by simp)]
          have hdv : (32 : UInt8) ∉ d :: v := fun h => hcw (List.mem_of_mem_drop (by rw [hr]; exact h))
          have hd32 : d ≠ 32 := by rintro rfl; exact hdv (by simp)
          have hj : d :: v ++ t = joinB ((d :: v) :: ws) := by
            obtain ⟨t2, e2, _, h02, h12⟩ := join_edge (d :: v) ws
            by_cases hvn : ws = []
            · rw [h0 hvn, e2, h02 hvn]
            · rw [h1 hvn, e2, h12 hvn]
          rw [hj, comma_words d v ws hd32 (fun h => hdv (List.mem_cons_of_mem _ h))]
          unfold commaC
          simp only [List.headD_cons, List.drop_succ_cons, List.drop_zero]
          by_cases h44 : d = 44
          · rw [if_pos h44, if_pos h44]
            simp only [Option.bind_some]
            rw [tail_words, tail_ref]
            intro x hx
            split at hx
            · exact hws x hx
            · rcases List.mem_cons.1 hx with rfl | hx
              · exact fun h => hdv (List.mem_cons_of_mem _ h)
              · exact hws x hx
          · rw [if_neg h44, if_neg h44]; rfl
      · rw [if_neg hp, if_neg hp, refTail_nodigit _ _ (by simpa [headD] using hd)]
        rfl

end Go.Proofs.YtcjnpklmfcbofaaGreatDoor
end
