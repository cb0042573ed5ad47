/- answer.Literal, answer.Has, and the document's. -/
import Derived.Test.YthnkgifbbemhfaaGreatDoorAs
import Derived.Test.YthnkgifbbemhfaaGreatDoorVI
import Derived.Test.YthnkgifbbemhfaaGreatDoorVK
import Derived.Test.YthnkgifbbemhfaaGreatDoorSn
set_option linter.unusedVariables false
set_option linter.unusedSimpArgs false
namespace Go.Proofs.YthnkgifbbemhfaaGreatDoor
open Go.RowKit Go

/-- a text as a literal -/
def litL (s : List UInt8) : List UInt8 := [123] ++ Lib.decDigits s.length ++ [125, 13, 10] ++ s
def hasB (s t : List UInt8) : Bool := Lib.contains (lowL s) (lowL t)

theorem contains_nil (b : List UInt8) : Lib.contains [] b = b.isEmpty := by
  unfold Lib.contains Lib.index
  cases b <;> rfl
theorem contains_cons (c : UInt8) (l b : List UInt8) : Lib.contains (c :: l) b = (b.isPrefixOf (c :: l) || Lib.contains l b) := by
  unfold Lib.contains
  rw [Lib.index]
  have hg := Lib.index_ge l b
  by_cases hp : b.isPrefixOf (c :: l) = true
  · rw [if_pos hp, hp]; rfl
  · rw [if_neg hp]
    have : b.isPrefixOf (c :: l) = false := Bool.eq_false_iff.mpr hp
    rw [this, Bool.false_or]
    by_cases h1 : Lib.index l b = -1
    · rw [if_pos (by rw [h1]; rfl), h1]
    · rw [if_neg (by simpa using h1)]
      congr 1
      apply propext
      constructor <;> intro h <;> omega
theorem contains_short : ∀ (l b : List UInt8), l.length < b.length → Lib.contains l b = false
  | [], b, h => by
    rw [contains_nil]
    cases b with
    | nil => simp at h
    | cons c b => rfl
  | c :: l, b, h => by
    rw [contains_cons, contains_short l b (by simp at h; omega), Bool.or_false]
    cases hp : b.isPrefixOf (c :: l) with
    | false => rfl
    | true =>
      have := (List.isPrefixOf_iff_prefix.1 hp).length_le
      omega
theorem contains_here {a b : List UInt8} {i : Nat} (h : (a.drop i).take b.length = b) : Lib.contains (a.drop i) b = true := by
  have hp : b <+: a.drop i := ⟨(a.drop i).drop b.length, by conv => lhs; lhs; rw [← h]
                                                            exact List.take_append_drop _ _⟩
  cases hd : a.drop i with
  | nil =>
    rw [hd] at hp
    have : b = [] := List.prefix_nil.1 hp
    rw [this, contains_nil]; rfl
  | cons c l =>
    rw [hd] at hp
    rw [contains_cons, List.isPrefixOf_iff_prefix.2 hp]; rfl
theorem contains_next {a b : List UInt8} {i : Nat} (h : (a.drop i).take b.length ≠ b) (hi : i + b.length ≤ a.length) : Lib.contains (a.drop i) b = Lib.contains (a.drop (i + 1)) b := by
  have hb : 0 < b.length := by
    rcases Nat.eq_zero_or_pos b.length with h0 | h0
    · have : b = [] := List.eq_nil_of_length_eq_zero h0
      subst this
      simp at h
    · exact h0
  have hd : a.drop i = a[i]'(by omega) :: a.drop (i + 1) := List.drop_eq_getElem_cons (by omega)
  have hp : b.isPrefixOf (a.drop i) = false := by
    cases hp : b.isPrefixOf (a.drop i) with
    | false => rfl
    | true =>
      obtain ⟨t, ht⟩ := List.isPrefixOf_iff_prefix.1 hp
      exact absurd (by rw [← ht, List.take_left]) h
  rw [hd] at hp ⊢
  rw [contains_cons, hp, Bool.false_or]
theorem next_lt {a b : List UInt8} {i : Nat} (h : (a.drop i).take b.length ≠ b) (hi : i + b.length ≤ a.length) : i + 1 ≤ a.length := by
  rcases Nat.eq_zero_or_pos b.length with h0 | h0
  · have : b = [] := List.eq_nil_of_length_eq_zero h0
    subst this
    simp at h
  · omega
theorem lit_sum (D s : List UInt8) : ({ data := #[123] } : ByteArray) ++ bs D ++ { data := #[125] } ++ { data := #[13, 10] } ++ bs s = bs ([123] ++ D ++ [125, 13, 10] ++ s) := by
  simp only [bs_append]
  congr 1
  simp
theorem contains_self (l : List UInt8) : Lib.contains l l = true := by
  have := contains_here (a := l) (b := l) (i := 0) (by simp)
  simpa using this
theorem contains_empty (l : List UInt8) : Lib.contains l [] = true := by
  have := contains_here (a := l) (b := []) (i := 0) (by simp)
  simpa using this

set_option maxRecDepth 100000 in
theorem literal_any (s : List UInt8) (w : World) (hl : s.length ≤ 1000000000) (hT : TabQ w) : Calls Tryz.prog 10 #[.string (bs s)] w fun e w' => e = .returned (.string (bs (litL s))) ∧ Below w.heap.size w w' := by
  have hd := decq_length 10 s.length (by omega) (by omega)
  have HT := Lib.hid hT
  clear hT
  unfold litL
  obtain ⟨D, hD⟩ : ∃ D, Lib.decDigits s.length = D := ⟨_, rfl⟩
  have HD := Lib.hid hD
  rw [hD] at hd ⊢
  clear hD
  go_enter Tryz.func10, Tryz.ntmps10
  go_wp2_with fail
  refine (itoaQ_any s.length _ (by omega) HT.out).mono ?_
  rintro e w1 ⟨rfl, hb1⟩
  rw [HD.out]
  go_wp2
  go_ret
  exact ⟨by show _ = Ending.returned (Value.string (bs ([123] ++ D ++ [125, 13, 10] ++ s))); rw [← lit_sum]; rfl, hb1⟩
set_option maxRecDepth 100000 in
theorem refLiteral_any (s : List UInt8) (w : World) (hl : s.length ≤ 1000000000) : Calls Tryz.prog 11 #[.string (bs s)] w fun e w' => e = .returned (.string (bs (litL s))) ∧ Below w.heap.size w w' := by
  have hd := decq_length 10 s.length (by omega) (by omega)
  unfold litL
  obtain ⟨D, hD⟩ : ∃ D, Lib.decDigits s.length = D := ⟨_, rfl⟩
  have HD := Lib.hid hD
  rw [hD] at hd ⊢
  clear hD
  go_enter Tryz.func11, Tryz.ntmps11
  go_wp2_with fail
  refine (refDigits10_any s.length _ (by omega)).mono ?_
  rintro e w1 ⟨rfl, hb1⟩
  rw [HD.out]
  go_wp2
  go_ret
  exact ⟨by simp only [← bs_append]; rfl, hb1⟩

theorem contains_any (a b : List UInt8) (m : Int) (w : World) (ha : a.length < 4294967281) (hm : w.cell? ⟨2, 0, none⟩ = some (.int .i64 m)) :
    Calls Tryz.prog 29 #[.string (bs a), .string (bs b)] w fun e w' => e = .returned (.bool (Lib.contains a b)) ∧ Below w.heap.size w w' :=
  (Tryz.strings_Contains (bs a) (bs b) m w (by rw [bs_size]; exact ha) hm).mono fun e w' ⟨h, k⟩ => by
    subst h k
    exact ⟨by simp, Below.refl _ _⟩

set_option maxRecDepth 100000 in
theorem has_any (s t : List UInt8) (m : Int) (w : World) (hs : s.length ≤ 100000000) (ht : t.length ≤ 100000000) (hm : w.cell? ⟨2, 0, none⟩ = some (.int .i64 m)) :
    Calls Tryz.prog 12 #[.string (bs s), .string (bs t)] w fun e w' => e = .returned (.bool (hasB s t)) ∧ Below w.heap.size w w' := by
  have HM := Lib.hid hm
  clear hm
  go_enter Tryz.func12, Tryz.ntmps12
  go_wp2_with fail
  refine (ansSmall_any s _ (by omega)).mono ?_
  rintro e w1 ⟨rfl, hb1⟩
  go_wp2_with fail
  refine (ansSmall_any t _ (by omega)).mono ?_
  rintro e w2 ⟨rfl, hb2⟩
  have hb := hb1.trans (hb2.mono hb1.size)
  have hm2 := (hb.cell (p := ⟨2, 0, none⟩) (cell_lt HM.out)).trans HM.out
  have HC := Lib.hid (contains_any (lowL s) (lowL t) m w2 (by rw [lowL_length]; omega) hm2)
  clear hm2 hb1 hb2
  go_wp2_with fail
  refine HC.out.mono ?_
  rintro e w3 ⟨rfl, hb3⟩
  go_wp2
  go_ret
  exact ⟨rfl, hb.trans (hb3.mono hb.size)⟩

set_option maxRecDepth 100000 in
set_option maxHeartbeats 1000000 in
theorem refHas_any (s t : List UInt8) (w : World) (hs : s.length ≤ 100000000) (ht : t.length ≤ 100000000) :
    Calls Tryz.prog 13 #[.string (bs s), .string (bs t)] w fun e w' => e = .returned (.bool (hasB s t)) ∧ Below w.heap.size w w' := by
  obtain ⟨R, hR⟩ : ∃ R, hasB s t = R := ⟨_, rfl⟩
  rw [hR]
  have HR := Lib.hid hR
  clear hR
  go_enter Tryz.func13, Tryz.ntmps13
  go_wp2_with fail
  refine (refSmall_any s _ (by omega)).mono ?_
  rintro e w1 ⟨rfl, hb1⟩
  go_wp2_with fail
  refine (refSmall_any t _ (by omega)).mono ?_
  rintro e w2 ⟨rfl, hb2⟩
  have hb := hb1.trans (hb2.mono hb1.size)
  have hr := HR.out
  unfold hasB at hr
  have hla := lowL_length s
  have hlb := lowL_length t
  obtain ⟨a, ha⟩ : ∃ a, lowL s = a := ⟨_, rfl⟩
  obtain ⟨b, hb9⟩ : ∃ b, lowL t = b := ⟨_, rfl⟩
  rw [ha] at hr hla ⊢
  rw [hb9] at hr hlb ⊢
  have HR2 := Lib.hid hr
  have hla2 : a.length ≤ 100000000 := by omega
  have hlb2 : b.length ≤ 100000000 := by omega
  clear hr ha hb9 HR hb1 hb2 hla hlb
  go_wp2
  go_loopw [7] (fun i wr => ∃ k : Nat, k ≤ a.length ∧ i = .int .i64 k ∧ Hid (Lib.contains (a.drop k) b = R) ∧ wr = w2) (fun i _ => a.length + 1 - (intOf i).toNat)
  case atStart => exact ⟨0, by omega, rfl, HR2.out, rfl⟩
  case round =>
    obtain ⟨k, hk, rfl, hr, rfl⟩ := hrel
    by_cases hlt : k + b.length ≤ a.length
    · have hlt' : (k : Int) + b.length ≤ a.length := by omega
      have hsl := fun w0 => run_mid a k (k + b.length) (by omega) (by omega) w0
      rw [show k + b.length - k = b.length by omega, show ((k + b.length : Nat) : Int) = (k : Int) + b.length by simp] at hsl
      by_cases he : (a.drop k).take b.length = b
      · have h1 := contains_here he
        rw [hr.out] at h1
        subst h1
        rw [he] at hsl
        clear hr he
        go_wp2
        go_ret
        exact ⟨rfl, hb⟩
      · have h1 := contains_next he hlt
        have hk2 := next_lt he hlt
        obtain ⟨M, hM⟩ : ∃ M, (a.drop k).take b.length = M := ⟨_, rfl⟩
        have hr3 : Hid (Lib.contains (a.drop (k + 1)) b = R) := by show _ = _; rw [← h1, hr.out]
        rw [hM] at hsl he
        have he2 : (M == b) = false := by simpa using he
        have hml : M.length = b.length := by rw [← hM, List.length_take, List.length_drop]; omega
        have HML := Lib.hid hml
        clear hr h1 hM he hml
        go_wp2
        go_roundw
        case rel => exact ⟨k + 1, hk2, by go_num, hr3, by trivial⟩
        case measure => simp [intOf]; omega
    · have hlt' : (a.length : Int) < k + b.length := by omega
      have h1 : R = false := by
        rw [← hr.out]
        exact contains_short _ _ (by rw [List.length_drop]; omega)
      subst h1
      clear hr
      go_wp2
      go_ret
      exact ⟨rfl, hb⟩

end Go.Proofs.YthnkgifbbemhfaaGreatDoor
