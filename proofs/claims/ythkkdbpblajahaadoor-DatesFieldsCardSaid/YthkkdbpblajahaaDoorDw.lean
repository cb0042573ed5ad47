/- strings.FieldsFunc at blanks and tabs: the words (plain). -/
import Derived.Lib.FieldsP
import Derived.Lib.DecodeN
import Derived.Test.YthkkdbpblajahaaDoorT
set_option linter.unusedVariables false
set_option linter.unusedSimpArgs false
namespace Go.Proofs.YthkkdbpblajahaaDoor

/-- a blank or a tab -/
def blankR (r : Nat) : Bool := r == 32 || r == 9
def blankC (c : UInt8) : Bool := c == 32 || c == 9
/-- words: a text cut at blanks and tabs -/
def wordsGo : List UInt8 → List UInt8 → List (List UInt8)
  | cur, [] => if cur = [] then [] else [cur]
  | cur, c :: l => if blankC c = true then (if cur = [] then wordsGo [] l else cur :: wordsGo [] l) else wordsGo (cur ++ [c]) l

theorem wordsGo_nil {cur : List UInt8} (h : cur ≠ []) : wordsGo cur [] = [cur] := by
  unfold wordsGo
  rw [if_neg h]
theorem wordsGo_run : ∀ (u cur r : List UInt8), (∀ c ∈ u, blankC c = false) → wordsGo cur (u ++ r) = wordsGo (cur ++ u) r
  | [], cur, r, _ => by simp
  | c :: u, cur, r, h => by
    have hc := h c List.mem_cons_self
    show (if blankC c = true then _ else wordsGo (cur ++ [c]) (u ++ r)) = _
    rw [if_neg (by simp [hc]), wordsGo_run u _ r (fun d hd => h d (List.mem_cons_of_mem _ hd))]
    simp
theorem wordsGo_good : ∀ (l cur : List UInt8), (∀ c ∈ cur, blankC c = false) → ∀ w ∈ wordsGo cur l, w ≠ [] ∧ ∀ c ∈ w, blankC c = false
  | [], cur, h, w, hw => by
    unfold wordsGo at hw
    split at hw
    · cases hw
    · rename_i hne
      obtain rfl : w = cur := by simpa using hw
      exact ⟨hne, h⟩
  | c :: l, cur, h, w, hw => by
    unfold wordsGo at hw
    by_cases hc : blankC c = true
    · rw [if_pos hc] at hw
      split at hw
      · exact wordsGo_good l [] (by simp) w hw
      · rename_i hne
        rcases List.mem_cons.1 hw with rfl | hw
        · exact ⟨hne, h⟩
        · exact wordsGo_good l [] (by simp) w hw
    · rw [if_neg hc] at hw
      refine wordsGo_good l (cur ++ [c]) ?_ w hw
      intro d hd
      rcases List.mem_append.1 hd with hd | hd
      · exact h d hd
      · obtain rfl : d = c := by simpa using hd
        simpa using hc

theorem decodeN_blank (n b0 b1 b2 b3 : Nat) (hn : 0 < n) :
    (blankR (Go.Lib.decodeN n b0 b1 b2 b3).1 = true → (Go.Lib.decodeN n b0 b1 b2 b3).2 = 1 ∧ (b0 = 32 ∨ b0 = 9)) ∧
    (blankR (Go.Lib.decodeN n b0 b1 b2 b3).1 = false → ¬ (b0 = 32 ∨ b0 = 9) ∧ 1 ≤ (Go.Lib.decodeN n b0 b1 b2 b3).2 ∧ (Go.Lib.decodeN n b0 b1 b2 b3).2 ≤ n ∧ (Go.Lib.decodeN n b0 b1 b2 b3).2 ≤ 4 ∧
      (2 ≤ (Go.Lib.decodeN n b0 b1 b2 b3).2 → 128 ≤ b1) ∧ (3 ≤ (Go.Lib.decodeN n b0 b1 b2 b3).2 → 128 ≤ b2) ∧ (4 ≤ (Go.Lib.decodeN n b0 b1 b2 b3).2 → 128 ≤ b3)) := by
  unfold blankR
  simp only [Bool.or_eq_true, beq_iff_eq, Bool.or_eq_false_iff, beq_eq_false_iff_ne]
  obtain ⟨D, hD⟩ : ∃ D, Go.Lib.decodeN n b0 b1 b2 b3 = D := ⟨_, rfl⟩
  rw [hD]
  have key : (b0 < 128 ∧ D = (b0, 1)) ∨ (128 ≤ b0 ∧ 128 ≤ D.1 ∧ 1 ≤ D.2 ∧ D.2 ≤ 4 ∧ D.2 ≤ n ∧ (2 ≤ D.2 → b1 / 64 = 2) ∧ (3 ≤ D.2 → b2 / 64 = 2) ∧ (4 ≤ D.2 → b3 / 64 = 2)) := by
    subst hD
    unfold Go.Lib.decodeN
    repeat' split
    all_goals first
      | exact .inl ⟨by assumption, rfl⟩
      | (right; simp only; omega)
  rcases key with ⟨h1, rfl⟩ | ⟨h0, h1, h2, h3, h4, h5, h6, h7⟩
  · exact ⟨fun h => ⟨rfl, h⟩, fun h => ⟨fun h' => by rcases h' with h' | h'; exact h.1 h'; exact h.2 h', Nat.le_refl _, hn, show 1 ≤ 4 by decide, fun h' => absurd h' (show ¬ 2 ≤ 1 by decide), fun h' => absurd h' (show ¬ 3 ≤ 1 by decide), fun h' => absurd h' (show ¬ 4 ≤ 1 by decide)⟩⟩
  · refine ⟨fun h => by omega, fun _ => ⟨by omega, h2, h4, h3, fun h => ?_, fun h => ?_, fun h => ?_⟩⟩
    · have := h5 h; omega
    · have := h6 h; omega
    · have := h7 h; omega

theorem get_list (s : ByteArray) (i : Nat) (h : i < s.size) : s.get! i = s.data.toList.getD i 0 := by
  cases s with
  | mk d =>
    have h' : i < d.size := h
    show d[i]! = d.toList.getD i 0
    rw [getElem!_pos d i h']
    simp [List.getD, h']

theorem ext_toList (s : ByteArray) (a b : Nat) (_ : b ≤ s.size) : (s.extract a b).data.toList = (s.data.toList.drop a).take (b - a) := by
  simp [List.extract_eq_take_drop]

/-- the word that is open -/
def curW (l : List UInt8) (st : Option Nat) (pos : Nat) : List UInt8 := match st with
  | none => []
  | some a => (l.drop a).take (pos - a)

theorem spans_words (s : ByteArray) (l : List UInt8) (hl : s.data.toList = l) : ∀ (f pos : Nat) (st : Option Nat) (acc : List (Nat × Nat)), l.length ≤ pos + f → pos ≤ l.length → (∀ a, st = some a → a < pos) →
    ((Go.Lib.closeSpans s (Go.Lib.spansFromP blankR s f pos st acc)).map fun x => (s.extract x.1 x.2).data.toList) = (acc.map fun x => (s.extract x.1 x.2).data.toList) ++ wordsGo (curW l st pos) (l.drop pos) := by
  have hsz : s.size = l.length := by rw [← hl]; simp
  have close : ∀ (pos : Nat) (st : Option Nat) (acc : List (Nat × Nat)), pos = l.length → (∀ a, st = some a → a < pos) → ((Go.Lib.closeSpans s (acc, st)).map fun x => (s.extract x.1 x.2).data.toList) = (acc.map fun x => (s.extract x.1 x.2).data.toList) ++ wordsGo (curW l st pos) (l.drop pos) := by
    intro pos st acc hp hst
    rw [List.drop_eq_nil_of_le (by omega)]
    cases st with
    | none => simp [Go.Lib.closeSpans, curW, wordsGo]
    | some a =>
      have ha := hst a rfl
      have hne : curW l (some a) pos ≠ [] := by
        intro e
        have := congrArg List.length e
        simp [curW] at this
        omega
      rw [wordsGo_nil hne]
      simp only [Go.Lib.closeSpans, List.map_append, List.map_cons, List.map_nil]
      rw [ext_toList _ _ _ (Nat.le_refl _), hl, hsz, ← hp]
      rfl
  intro f
  induction f with
  | zero => intro pos st acc h1 h2 hst; exact close pos st acc (by omega) hst
  | succ f ih =>
    intro pos st acc h1 h2 hst
    unfold Go.Lib.spansFromP
    by_cases hp : pos < s.size
    · rw [if_pos hp]
      obtain ⟨hb1, hb2⟩ := decodeN_blank (s.size - pos) (s.get! pos).toNat (s.get! (pos + 1)).toNat (s.get! (pos + 2)).toNat (s.get! (pos + 3)).toNat (by omega)
      rw [← Go.Lib.decode_at] at hb1 hb2
      have hpl : pos < l.length := by omega
      have g0 : s.get! pos = l.getD pos 0 := by rw [get_list s pos hp, hl]
      obtain ⟨c, hc⟩ : ∃ c, l.getD pos 0 = c := ⟨_, rfl⟩
      have hdrop : l.drop pos = c :: l.drop (pos + 1) := by
        rw [List.drop_eq_getElem_cons hpl, ← hc]
        simp [List.getD, hpl]
      rw [g0, hc] at hb1 hb2
      have hbc : blankC c = true ↔ (c.toNat = 32 ∨ c.toNat = 9) := by
        unfold blankC
        simp only [Bool.or_eq_true, beq_iff_eq]
        constructor
        · rintro (rfl | rfl)
          · exact .inl rfl
          · exact .inr rfl
        · rintro (h | h)
          · exact .inl (UInt8.toNat_inj.1 h)
          · exact .inr (UInt8.toNat_inj.1 h)
      rcases hd : blankR (Utf8.decode s pos).1 with _ | _
      · obtain ⟨k0, k1, k2, k3, k4, k5, k6⟩ := hb2 hd
        obtain ⟨n, hn⟩ : ∃ n, (Utf8.decode s pos).2 = n := ⟨_, rfl⟩
        rw [hn] at k1 k2 k3 k4 k5 k6 ⊢
        have hu : ∀ d ∈ (l.drop pos).take n, blankC d = false := by
          intro d hd'
          obtain ⟨j, hj, rfl⟩ := List.mem_iff_getElem.1 hd'
          simp only [List.length_take, List.length_drop] at hj
          have e : ((l.drop pos).take n)[j] = l.getD (pos + j) 0 := by
            simp [List.getD, show pos + j < l.length by omega]
          rw [e, Bool.eq_false_iff]
          intro hb
          have g : ∀ i, s.get! (pos + i) = l.getD (pos + i) 0 ∨ l.length ≤ pos + i := fun i => by
            by_cases h : pos + i < s.size
            · exact .inl (by rw [get_list s _ h, hl])
            · exact .inr (by omega)
          have big : ∀ x : UInt8, 128 ≤ x.toNat → blankC x ≠ true := by
            intro x hx hbx
            unfold blankC at hbx
            simp only [Bool.or_eq_true, beq_iff_eq] at hbx
            rcases hbx with rfl | rfl <;> exact absurd hx (by decide)
          match j, hj with
          | 0, _ => exact k0 (hbc.1 (by rw [← hc]; exact hb))
          | 1, hj => rcases g 1 with g1 | g1; exact big _ (by rw [← g1]; exact k4 (by omega)) hb; omega
          | 2, hj => rcases g 2 with g1 | g1; exact big _ (by rw [← g1]; exact k5 (by omega)) hb; omega
          | 3, hj => rcases g 3 with g1 | g1; exact big _ (by rw [← g1]; exact k6 (by omega)) hb; omega
          | j + 4, hj => omega
        have hsplit : l.drop pos = (l.drop pos).take n ++ l.drop (pos + n) := by
          conv => lhs; rw [← List.take_append_drop n (l.drop pos), List.drop_drop]
        simp only [Bool.false_eq_true, if_false]
        rw [hsplit, wordsGo_run _ _ _ hu]
        cases st with
        | none =>
          simp only []
          rw [ih (pos + n) (some pos) acc (by omega) (by omega) (fun a ha => by obtain rfl := Option.some.inj ha; omega)]
          simp [curW]
        | some a =>
          have ha := hst a rfl
          simp only []
          rw [ih (pos + n) (some a) acc (by omega) (by omega) (fun b hb => by obtain rfl := Option.some.inj hb; omega)]
          simp only [curW]
          congr 2
          rw [show pos + n - a = (pos - a) + n by omega, List.take_add, List.drop_drop, show a + (pos - a) = pos by omega]
      · obtain ⟨k1, k0⟩ := hb1 hd
        rw [k1, hdrop]
        simp only [if_true]
        have hw : ∀ cur, wordsGo cur (c :: l.drop (pos + 1)) = if cur = [] then wordsGo [] (l.drop (pos + 1)) else cur :: wordsGo [] (l.drop (pos + 1)) := by
          intro cur
          show (if blankC c = true then _ else _) = _
          rw [if_pos (hbc.2 k0)]
        rw [hw]
        cases st with
        | none =>
          simp only []
          rw [ih (pos + 1) none acc (by omega) (by omega) (fun a ha => by cases ha)]
          simp [curW]
        | some a =>
          have ha := hst a rfl
          simp only []
          rw [ih (pos + 1) none (acc ++ [(a, pos)]) (by omega) (by omega) (fun a ha => by cases ha)]
          have hne : curW l (some a) pos ≠ [] := by
            intro e
            have := congrArg List.length e
            simp [curW] at this
            omega
          rw [if_neg hne]
          simp only [List.map_append, List.map_cons, List.map_nil]
          rw [ext_toList _ _ _ (by omega), hl, List.append_assoc]
          rfl
    · rw [if_neg hp]
      exact close pos st acc (by omega) hst

/-- strings.FieldsFunc at blanks and tabs: the words -/
theorem fields_words (l : List UInt8) : (Go.Lib.goFieldsP blankR ⟨l.toArray⟩).map (·.data.toList) = wordsGo [] l := by
  have := spans_words ⟨l.toArray⟩ l (by simp) l.length 0 none [] (by omega) (by omega) (fun a h => by cases h)
  unfold Go.Lib.goFieldsP Go.Lib.spansOfP
  rw [List.map_map]
  rw [show (⟨l.toArray⟩ : ByteArray).size = l.length by simp [ByteArray.size]]
  simpa [Function.comp_def, curW] using this

end Go.Proofs.YthkkdbpblajahaaDoor
