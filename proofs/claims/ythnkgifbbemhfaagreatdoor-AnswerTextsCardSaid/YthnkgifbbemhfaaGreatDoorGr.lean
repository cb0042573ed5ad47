/- How IMAP quotes a text (plain): which runes are printed, one byte replaced. -/
import Derived.Test.YthnkgifbbemhfaaGreatDoorGq
import Derived.Test.YthnkgifbbemhfaaGreatDoorS
import Derived.Lib.Replace
import Derived.Lib.DecodeNEq
import Derived.Shelf.GgClosure.StringsIndexFunc
set_option linter.unusedVariables false
set_option linter.unusedSimpArgs false
namespace Go.Proofs.YthnkgifbbemhfaaGreatDoor
open Go

/-- a rune that is not printed -/
def oddR (r : Nat) : Bool := decide ((r : Int) < 32) || decide (126 < (r : Int))
theorem odd_byte (c : UInt8) : oddR c.toNat = !printB c := by
  unfold oddR printB
  rw [Bool.eq_iff_iff]
  simp
  omega
theorem decodeN_odd (n b0 b1 b2 b3 : Nat) : (b0 < 128 ∧ Lib.decodeN n b0 b1 b2 b3 = (b0, 1)) ∨ (128 ≤ b0 ∧ 128 ≤ (Lib.decodeN n b0 b1 b2 b3).1) := by
  obtain ⟨D, hD⟩ : ∃ D, Lib.decodeN n b0 b1 b2 b3 = D := ⟨_, rfl⟩
  rw [hD]
  subst hD
  unfold Lib.decodeN
  repeat' split
  all_goals first
    | exact .inl ⟨by assumption, rfl⟩
    | (right; simp only; omega)
theorem get_byte (l : List UInt8) (i : Nat) (c : UInt8) (h : l[i]? = some c) : (bs l).get! i = c := by
  obtain ⟨hlt, hc⟩ := List.getElem?_eq_some_iff.1 h
  show (l.toArray)[i]! = c
  rw [getElem!_pos l.toArray i (by simpa using hlt)]
  simpa using hc
theorem idx_odd (l : List UInt8) : ∀ (f pos : Nat), pos ≤ l.length → l.length ≤ pos + f → (decide (0 ≤ Lib.idxFuncFrom oddR true (bs l) f pos)) = !((l.drop pos).all printB)
  | 0, pos, h1, h2 => by
    have : pos = l.length := by omega
    rw [this, List.drop_length]
    rfl
  | f + 1, pos, h1, h2 => by
    by_cases hlt : pos < l.length
    · obtain ⟨c, hc⟩ : ∃ c, l[pos]? = some c := ⟨_, List.getElem?_eq_getElem hlt⟩
      have hd : l.drop pos = c :: l.drop (pos + 1) := by
        rw [List.drop_eq_getElem_cons hlt, (List.getElem?_eq_some_iff.1 hc).2]
      rw [hd, List.all_cons]
      unfold Lib.idxFuncFrom
      rw [if_pos (by rw [bs_size]; exact hlt), Lib.decode_at, get_byte l pos c hc]
      rcases decodeN_odd ((bs l).size - pos) c.toNat ((bs l).get! (pos + 1)).toNat ((bs l).get! (pos + 2)).toNat ((bs l).get! (pos + 3)).toNat with ⟨h3, h4⟩ | ⟨h3, h4⟩
      · rw [h4]
        simp only
        rw [odd_byte]
        cases hp : printB c with
        | true =>
          simp only [Bool.not_true, Bool.false_eq_true, if_false, Bool.true_and]
          exact idx_odd l f (pos + 1) (by omega) (by omega)
        | false =>
          simp only [Bool.not_false, if_true, Bool.false_and]
          simp
      · have ho : oddR (Lib.decodeN ((bs l).size - pos) c.toNat ((bs l).get! (pos + 1)).toNat ((bs l).get! (pos + 2)).toNat ((bs l).get! (pos + 3)).toNat).1 = true := by
          unfold oddR
          rw [Bool.or_eq_true, decide_eq_true_eq, decide_eq_true_eq]
          right; omega
        have hp : printB c = false := by
          unfold printB
          rw [Bool.and_eq_false_iff]
          right
          simp; omega
        rw [if_pos ho, hp]
        simp
    · have : pos = l.length := by omega
      rw [Lib.idxFuncFrom_end _ _ _ _ _ (by rw [bs_size]; exact hlt), this, List.drop_length]
      rfl
theorem idx_print (l : List UInt8) : decide (0 ≤ Lib.idxFunc oddR true (bs l)) = !(l.all printB) := by
  have := idx_odd l l.length 0 (by omega) (by omega)
  rw [List.drop_zero] at this
  unfold Lib.idxFunc
  rw [bs_size]
  exact this

/-- one byte replaced by a text -/
def repB (c : UInt8) (new : List UInt8) (l : List UInt8) : List UInt8 := l.flatMap fun b => if b = c then new else [b]
theorem index_nil (c : UInt8) : Lib.index [] [c] = -1 := rfl
theorem replaceK_ne (c b : UInt8) (new : List UInt8) (h : b ≠ c) : ∀ (k : Nat) (l : List UInt8), Lib.replaceK [c] new k (b :: l) = b :: Lib.replaceK [c] new k l
  | 0, l => rfl
  | k + 1, l => by
    have hp : ([c] : List UInt8).isPrefixOf (b :: l) = false := by simp [List.isPrefixOf, Ne.symm h]
    have hix : Lib.index (b :: l) [c] = if Lib.index l [c] == -1 then -1 else Lib.index l [c] + 1 := by rw [Lib.index, hp]; simp
    have hge := Lib.index_ge l [c]
    rw [Lib.replaceK, Lib.replaceK, hix]
    by_cases hm : Lib.index l [c] = -1
    · rw [hm]; simp
    · obtain ⟨i, hi⟩ : ∃ i : Nat, Lib.index l [c] = i := ⟨(Lib.index l [c]).toNat, by omega⟩
      rw [hi]
      have e1 : ((i : Int) == -1) = false := by rw [beq_eq_false_iff_ne]; omega
      have e2 : ((i : Int) + 1 == -1) = false := by rw [beq_eq_false_iff_ne]; omega
      rw [e1]
      simp only [Bool.false_eq_true, if_false]
      rw [e2]
      simp only [Bool.false_eq_true, if_false]
      rw [show ((i : Int) + 1).toNat = i + 1 by omega, show ((i : Int)).toNat = i by omega]
      simp only [List.take_succ_cons, List.cons_append, List.length_singleton, List.drop_succ_cons]
theorem replace_one (c : UInt8) (new : List UInt8) : ∀ l : List UInt8, Lib.replaceK [c] new (Lib.count l [c]) l = repB c new l
  | [] => by
    rw [Lib.count_one]
    rfl
  | b :: l => by
    have ih := replace_one c new l
    unfold repB at ih ⊢
    rw [List.flatMap_cons]
    by_cases h : b = c
    · subst h
      rw [Lib.count_cons_eq, if_pos rfl, show 1 + Lib.count l [b] = Lib.count l [b] + 1 by omega]
      have hix : Lib.index (b :: l) [b] = ((0 : Nat) : Int) := by rw [Lib.index]; simp [List.isPrefixOf]
      rw [Lib.replaceK_hit [b] new _ _ 0 hix]
      simp only [List.take_zero, List.nil_append, Nat.zero_add, List.length_singleton, List.drop_succ_cons, List.drop_zero]
      rw [ih]
    · rw [Lib.count_cons_ne b c l h, replaceK_ne c b new h, ih, if_neg h]
      rfl
theorem replaceAll_one (c : UInt8) (new l : List UInt8) (h : ¬ ([c] : List UInt8) == new) : Lib.replaceAll l [c] new = repB c new l := by
  unfold Lib.replaceAll Lib.replace Lib.replaceNum
  rw [if_neg h, if_pos (by omega)]
  exact replace_one c new l
theorem escL_eq (l : List UInt8) : repB 34 [92, 34] (repB 92 [92, 92] l) = escL l := by
  unfold repB escL
  induction l with
  | nil => rfl
  | cons c r ih =>
    rw [List.flatMap_cons, List.flatMap_append, ih, List.flatMap_cons]
    congr 1
    by_cases h1 : c = 92
    · subst h1; rfl
    · by_cases h2 : c = 34
      · subst h2; rfl
      · rw [if_neg h1]
        simp [h1, h2]
theorem repB_len (c : UInt8) (new : List UInt8) (h : new.length ≤ 2) : ∀ l : List UInt8, (repB c new l).length ≤ 2 * l.length
  | [] => by simp [repB]
  | b :: l => by
    have ih := repB_len c new h l
    unfold repB at ih ⊢
    rw [List.flatMap_cons, List.length_append, List.length_cons]
    split
    · omega
    · simp only [List.length_cons, List.length_nil]; omega

end Go.Proofs.YthnkgifbbemhfaaGreatDoor
