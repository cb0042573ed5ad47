/- section: Cut (plain), Split, what Parse reads. -/
import Derived.Test.YtgkbigbekmkobaaDoorK7
import Derived.Lib.SplitLaws
set_option linter.unusedVariables false
set_option linter.unusedSimpArgs false
namespace Go.Proofs.YtgkbigbekmkobaaDoor
open Go.RowKit

theorem cut_cons (c : UInt8) (t sep : List UInt8) (hs : sep ≠ []) : Lib.cut (c :: t) sep = if sep.isPrefixOf (c :: t) = true then ([], (c :: t).drop sep.length, true) else (c :: (Lib.cut t sep).1, (Lib.cut t sep).2.1, (Lib.cut t sep).2.2) := by
  unfold Lib.cut
  rw [show Lib.index (c :: t) sep = if sep.isPrefixOf (c :: t) = true then 0 else if (Lib.index t sep == -1) = true then -1 else Lib.index t sep + 1 from rfl]
  by_cases hp : sep.isPrefixOf (c :: t) = true
  · rw [if_pos hp, if_pos hp]; simp
  · rw [if_neg hp, if_neg hp]
    have hge := Lib.index_ge t sep
    by_cases h1 : Lib.index t sep = -1
    · simp [h1]
    · have h2 : (Lib.index t sep == -1) = false := beq_eq_false_iff_ne.2 h1
      rw [h2]
      obtain ⟨k, hk⟩ : ∃ k : Nat, Lib.index t sep = k := ⟨(Lib.index t sep).toNat, by omega⟩
      rw [hk]
      have e1 : ((k : Int) + 1).toNat = k + 1 := by omega
      simp [show (0 : Int) ≤ (k : Int) + 1 by omega, e1, Nat.add_right_comm]
theorem cut_nil (sep : List UInt8) (hs : sep ≠ []) : Lib.cut [] sep = ([], [], false) := by
  have h : Lib.index [] sep = -1 := by
    show (if sep.isEmpty = true then (0 : Int) else -1) = -1
    rw [if_neg (by simpa using hs)]
  unfold Lib.cut
  rw [h]
  simp
theorem bs_eta (s : ByteArray) : bs s.data.toList = s := by
  apply ByteArray.ext
  simp
/-- what a cut text is -/
theorem cut_eq (sep : List UInt8) (hs : sep ≠ []) : ∀ s : List UInt8, if (Lib.cut s sep).2.2 = true then s = (Lib.cut s sep).1 ++ sep ++ (Lib.cut s sep).2.1 else (Lib.cut s sep).1 = s ∧ (Lib.cut s sep).2.1 = []
  | [] => by rw [cut_nil sep hs]; simp
  | c :: t => by
    have ih := cut_eq sep hs t
    rw [cut_cons c t sep hs]
    by_cases hp : sep.isPrefixOf (c :: t) = true
    · rw [if_pos hp]
      obtain ⟨r, hr⟩ := List.isPrefixOf_iff_prefix.1 hp
      simp only [if_true, List.nil_append]
      rw [← hr, List.drop_append_of_le_length (Nat.le_refl _), List.drop_length, List.nil_append]
    · rw [if_neg hp]
      by_cases hf : (Lib.cut t sep).2.2 = true
      · rw [if_pos hf] at ih
        simp only
        rw [if_pos hf, List.cons_append, List.cons_append, ← ih]
      · rw [if_neg hf] at ih
        simp only
        rw [if_neg hf, ih.1]
        exact ⟨rfl, ih.2⟩
theorem cut_len (sep s : List UInt8) (hs : sep ≠ []) : (Lib.cut s sep).1.length ≤ s.length ∧ (Lib.cut s sep).2.1.length ≤ s.length ∧ ((Lib.cut s sep).2.2 = true → (Lib.cut s sep).2.1.length < s.length) := by
  have h := cut_eq sep hs s
  have hpos := List.length_pos_iff.2 hs
  by_cases hf : (Lib.cut s sep).2.2 = true
  · rw [if_pos hf] at h
    have := congrArg List.length h
    simp at this
    exact ⟨by omega, by omega, fun _ => by omega⟩
  · rw [if_neg hf] at h
    rw [h.1, h.2]
    exact ⟨Nat.le_refl _, by simp, fun h => absurd h hf⟩

/-- strings.Split -/
theorem splitS_any (s sep : List UInt8) (m : Int) (w : World) (hs : s.length < 4294967281) (h1 : sep ≠ []) (hm : w.cell? ⟨13, 0, none⟩ = some (.int .i64 m)) :
    Calls Tryd.prog 21 #[.string (bs s), .string (bs sep)] w fun e w' => (∃ n c, e = .returned (.slice (some ⟨w.heap.size, 0, none⟩) n c) ∧ StrsAt w' (.slice (some ⟨w.heap.size, 0, none⟩) n c) (Lib.split s sep)) ∧ Below w.heap.size w w' := by
  have hpos : 1 ≤ (bs sep).size := by rw [bs_size]; exact List.length_pos_iff.2 h1
  refine (Tryd.strings_Split (bs s) (bs sep) m w (by rw [bs_size]; exact hs) hm hpos).mono fun e w' ⟨he, hw⟩ => ?_
  have hlen := Lib.splitB_all (bs sep) hpos 0 _ (bs s) rfl
  have hdat := Lib.splitB_data (bs sep) 0 (Lib.countB (bs s) (bs sep)) (bs s)
  have hspl : (Lib.splitB (bs sep) 0 (Lib.countB (bs s) (bs sep)) (bs s)).map (·.data.toList) = Lib.split s sep := by
    rw [hdat]
    unfold Lib.split Lib.countB
    simp
  have hl2 : (Lib.split s sep).length = Lib.countB (bs s) (bs sep) + 1 := by rw [← hspl, List.length_map, hlen]
  subst he hw
  refine ⟨⟨_, _, rfl, .inr ⟨w.heap.size, 0, _, by rw [hl2], by rw [hl2]; exact Nat.le_refl _, by simp, fun j hj => ?_⟩⟩, (Below.refl _ _).alloc (Nat.le_refl _) _⟩
  have hjl : j < (Lib.splitB (bs sep) 0 (Lib.countB (bs s) (bs sep)) (bs s)).length := by rw [hlen, ← hl2]; exact hj
  have e1 : (Lib.split s sep).getD j [] = ((Lib.splitB (bs sep) 0 (Lib.countB (bs s) (bs sep)) (bs s))[j]).data.toList := by
    rw [← hspl]
    simp [List.getD, hjl]
  rw [e1, Nat.zero_add, bs_eta]
  have hb := heap_new w (.cells ((Lib.splitB (bs sep) 0 (Lib.countB (bs s) (bs sep)) (bs s)).map Value.string).toArray 9)
  simp only [World.cell?]
  rw [hb]
  simp [hjl]

/-- the loop of Parse: the numbers, and what is left where one is none -/
def loopF : Nat → List UInt8 → List Int × Option (List UInt8)
  | 0, r => ([], some r)
  | f + 1, r => if numL (Lib.cut r [46]).1 = 0 then ([], some r) else if (Lib.cut r [46]).2.2 = true then (numL (Lib.cut r [46]).1 :: (loopF f (Lib.cut r [46]).2.1).1, (loopF f (Lib.cut r [46]).2.1).2) else ([numL (Lib.cut r [46]).1], none)
/-- a section's text, read -/
def readL (s : List UInt8) : Option (List Int × List UInt8 × List (List UInt8)) :=
  let R := if s = [] then ([], none) else loopF (s.length + 1) s
  match R.2 with
  | none => if rightL R.1 [] [] = true then some (R.1, [], []) else none
  | some r =>
    let q := Lib.cut r [32, 40]
    if q.2.2 = true then
      if Lib.hasSuffix q.2.1 [41] = true then
        if q.1 = [] then none
        else if rightL R.1 (upL q.1) (Lib.split (Lib.trimSuffix q.2.1 [41]) [32]) = true then some (R.1, upL q.1, Lib.split (Lib.trimSuffix q.2.1 [41]) [32]) else none
      else none
    else if q.1 = [] then none
    else if rightL R.1 (upL q.1) [] = true then some (R.1, upL q.1, []) else none

end Go.Proofs.YtgkbigbekmkobaaDoor
