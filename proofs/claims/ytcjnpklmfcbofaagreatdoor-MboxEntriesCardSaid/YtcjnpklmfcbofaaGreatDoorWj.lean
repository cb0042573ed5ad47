/- Texts of one walk, merged: XCt XMH XMA XMI XMJ XD43 XDt XD38 XDs. -/
import Derived.Test.YtcjnpklmfcbofaaGreatDoorWi
import Derived.Test.YtcjnpklmfcbofaaGreatDoorShelf
import Derived.BigQuiet
import Derived.Shelf.Strings.FieldsAny
import Derived.Deep.RegionHeld3
import Derived.Deep.DeepCutAuto
import Derived.Deep.CutBlock
import Derived.LoopTactic

/- strings.Cut at a separator of one byte. -/
set_option linter.unusedVariables false
set_option linter.unusedSimpArgs false
section
set_option linter.unusedVariables false
set_option linter.unusedSimpArgs false
namespace Go.Proofs.YtcjnpklmfcbofaaGreatDoor
open Go.RowKit Go

/-- a text cut at the first byte p -/
def cutB (p : UInt8) : List UInt8 → Option (List UInt8 × List UInt8)
  | [] => none
  | c :: t => if c = p then some ([], t) else match cutB p t with
    | none => none
    | some (a, r) => some (c :: a, r)
theorem indexB (p : UInt8) (t : List UInt8) : Lib.indexByte t p = match cutB p t with | none => -1 | some (a, _) => (a.length : Int) := by
  induction t with
  | nil => rfl
  | cons c t ih =>
    unfold Lib.indexByte cutB
    by_cases hc : c = p
    · simp [hc]
    · simp only [beq_iff_eq, hc, if_false]
      cases hq : cutB p t with
      | none => rw [hq] at ih; simp [ih]
      | some q =>
        obtain ⟨a, b⟩ := q
        rw [hq] at ih
        simp only at ih
        rw [ih, if_neg (by omega)]
        simp
theorem cutB_some {p : UInt8} {t a r : List UInt8} (e : cutB p t = some (a, r)) : t = a ++ p :: r ∧ p ∉ a := by
  induction t generalizing a r with
  | nil => simp [cutB] at e
  | cons c t ih =>
    unfold cutB at e
    by_cases hc : c = p
    · rw [if_pos hc] at e
      obtain ⟨rfl, rfl⟩ := Prod.mk.inj (Option.some.inj e)
      simp [hc]
    · rw [if_neg hc] at e
      cases hq : cutB p t with
      | none => rw [hq] at e; cases e
      | some q =>
        obtain ⟨x, y⟩ := q
        rw [hq] at e
        obtain ⟨rfl, rfl⟩ := Prod.mk.inj (Option.some.inj e)
        obtain ⟨h1, h2⟩ := ih hq
        rw [h1]
        refine ⟨rfl, ?_⟩
        simp only [List.mem_cons, not_or]
        exact ⟨fun h => hc h.symm, h2⟩
theorem cutB_of {p : UInt8} : ∀ (a r : List UInt8), p ∉ a → cutB p (a ++ p :: r) = some (a, r)
  | [], r, _ => by simp [cutB]
  | c :: a, r, h => by
    simp only [List.mem_cons, not_or] at h
    rw [List.cons_append, cutB, if_neg (fun e => h.1 e.symm), cutB_of a r h.2]
theorem cutB_none {p : UInt8} {t : List UInt8} (e : cutB p t = none) : p ∉ t := by
  intro h
  obtain ⟨a, r, rfl, ha⟩ : ∃ a r, t = a ++ p :: r ∧ p ∉ a := by
    clear e
    induction t with
    | nil => cases h
    | cons c t ih =>
      by_cases hc : c = p
      · exact ⟨[], t, by rw [hc]; rfl, by simp⟩
      · obtain ⟨a, r, rfl, ha⟩ := ih (by rcases List.mem_cons.1 h with h | h; exact absurd h.symm hc; exact h)
        exact ⟨c :: a, r, rfl, by simp only [List.mem_cons, not_or]; exact ⟨fun h => hc h.symm, ha⟩⟩
  rw [cutB_of a r ha] at e
  cases e

theorem indexOne_any (p : UInt8) (t : List UInt8) (w : World) : Calls Tryz.prog 80 #[.string (bs t), .string (bs [p])] w fun e w' => e = .returned (.int .i64 (match cutB p t with | none => -1 | some (a, _) => (a.length : Int))) ∧ w = w' :=
  (Tryz.stringslite_Index_one (bs t) p w).mono fun _ _ ⟨h, k⟩ => ⟨by rw [h, ← indexB], k.symm⟩

theorem cutlB_some (p : UInt8) (t a r : List UInt8) (w : World) (hc : cutB p t = some (a, r)) (hl : t.length ≤ 1099511627776) : Calls Tryz.prog 47 #[.string (bs t), .string (bs [p])] w fun e w' => e = .returned (.tuple #[.string (bs a), .string (bs r), .bool true]) ∧ Below w.heap.size w w' := by
  have hi := indexOne_any p t
  rw [hc] at hi
  have ht := (cutB_some hc).1
  have htl : t.length = a.length + 1 + r.length := by rw [ht]; simp; omega
  have h1 := run_to t a.length (by omega)
  have h2 := run_from t (a.length + 1) (by omega)
  rw [show t.take a.length = a by rw [ht]; simp] at h1
  rw [show t.drop (a.length + 1) = r by rw [ht, show a ++ p :: r = (a ++ [p]) ++ r by simp]; exact List.drop_left' (by simp), show ((a.length + 1 : Nat) : Int) = (a.length : Int) + 1 by simp] at h2
  have hal : a.length + 1 ≤ t.length := by omega
  have HI := Lib.hid hi
  have d0 : decide (0 ≤ (a.length : Int)) = true := by simp
  clear hi hc ht htl
  go_enter Tryz.func47, Tryz.ntmps47
  go_wp2_with fail
  refine (HI.out _).mono ?_
  rintro e w' ⟨rfl, rfl⟩
  go_wp2
  go_quiet (fail)
  go_wp2
  go_ret3
  exact ⟨rfl, below_drewN (Below.refl _ _) _⟩
theorem cutlB_none (p : UInt8) (t : List UInt8) (w : World) (hc : cutB p t = none) : Calls Tryz.prog 47 #[.string (bs t), .string (bs [p])] w fun e w' => e = .returned (.tuple #[.string (bs t), .string (bs []), .bool false]) ∧ Below w.heap.size w w' := by
  have hi := indexOne_any p t
  rw [hc] at hi
  have HI := Lib.hid hi
  clear hi hc
  go_enter Tryz.func47, Tryz.ntmps47
  go_wp2_with fail
  refine (HI.out _).mono ?_
  rintro e w' ⟨rfl, rfl⟩
  go_wp2
  go_ret3
  exact ⟨rfl, Below.refl _ _⟩
/-- strings.Cut(t, p) -/
theorem cutOne_some (p : UInt8) (t a r : List UInt8) (w : World) (hc : cutB p t = some (a, r)) (hl : t.length ≤ 1099511627776) : Calls Tryz.prog 20 #[.string (bs t), .string (bs [p])] w fun e w' => e = .returned (.tuple #[.string (bs a), .string (bs r), .bool true]) ∧ Below w.heap.size w w' := by
  have HC := Lib.hid hc
  clear hc
  go_enter Tryz.func20, Tryz.ntmps20
  go_wp2_with fail
  refine (cutlB_some p t a r _ HC.out hl).mono ?_
  rintro e w' ⟨rfl, hb⟩
  go_wp2
  go_ret3
  exact ⟨rfl, hb⟩
theorem cutOne_none (p : UInt8) (t : List UInt8) (w : World) (hc : cutB p t = none) : Calls Tryz.prog 20 #[.string (bs t), .string (bs [p])] w fun e w' => e = .returned (.tuple #[.string (bs t), .string (bs []), .bool false]) ∧ Below w.heap.size w w' := by
  have HC := Lib.hid hc
  clear hc
  go_enter Tryz.func20, Tryz.ntmps20
  go_wp2_with fail
  refine (cutlB_none p t _ HC.out).mono ?_
  rintro e w' ⟨rfl, hb⟩
  go_wp2
  go_ret3
  exact ⟨rfl, hb⟩

end Go.Proofs.YtcjnpklmfcbofaaGreatDoor
end

/- mbox (plain): which lines are separators. -/
set_option linter.unusedVariables false
set_option linter.unusedSimpArgs false
section
namespace Go.Proofs.YtcjnpklmfcbofaaGreatDoor
open Go

/-- a separator line of this sender and moment -/
def SepIs (line sender : List UInt8) (t : Int) : Prop := senderOk sender = true ∧ 0 ≤ t ∧ t ≤ 4102444799 ∧ ∃ y m d h mi s wk, Cal.civ7 t y m d h mi s wk ∧ line = headL sender (boxL y m d h mi s wk)

/-- a byte that is printed -/
def inkC (c : UInt8) : Bool := decide (33 ≤ c.toNat) && decide (c.toNat ≤ 126)
theorem ink_space {c : UInt8} (h : inkC c = true) : Lib.isSp c = false ∧ c.toNat < 128 ∧ blankC c = false := by
  have h2 : 33 ≤ c.toNat ∧ c.toNat ≤ 126 := by unfold inkC at h; simpa using h
  have key : ∀ k : UInt8, k.toNat ≤ 32 → (c == k) = false := by
    intro k hk
    rw [beq_eq_false_iff_ne]
    rintro rfl
    omega
  refine ⟨?_, by omega, ?_⟩
  · unfold Lib.isSp
    rw [key 9 (by decide), key 10 (by decide), key 11 (by decide), key 12 (by decide), key 13 (by decide), key 32 (by decide)]
    rfl
  · unfold blankC
    rw [key 32 (by decide), key 9 (by decide)]
    rfl
theorem isD_ink {c : UInt8} (h : isD c = true) : inkC c = true := by
  have h2 := isD_ne h
  unfold inkC
  rw [Bool.and_eq_true, decide_eq_true_eq, decide_eq_true_eq]
  omega
theorem mon_ink : ∀ n : Nat, n < 12 → (monthL ((n : Int) + 1)).all inkC = true := by decide +kernel
theorem wk_ink : ∀ n : Nat, n < 7 → (weekL (n : Int)).all inkC = true := by decide +kernel
theorem digs_ink {s : List UInt8} {n : Nat} (h : likeL s (List.replicate n 48) = true) : s.all inkC = true := by
  induction n generalizing s with
  | zero => cases s with
    | nil => rfl
    | cons c s => cases h
  | succ n ih => cases s with
    | nil => cases h
    | cons c s =>
      have h' : (likeB c 48 && likeL s (List.replicate n 48)) = true := h
      rw [Bool.and_eq_true, likeB_dig] at h'
      rw [List.all_cons, isD_ink h'.1, ih h'.2]; rfl
theorem fields_word (w r : List UInt8) (c : UInt8) (hw : w.all inkC = true) (h0 : w ≠ []) (hc : Lib.isSp c = true) : ∀ cur, Lib.fieldsGo cur (w ++ c :: r) = (cur ++ w) :: Lib.fieldsGo [] r := by
  induction w with
  | nil => exact absurd rfl h0
  | cons a w ih =>
    intro cur
    rw [List.all_cons, Bool.and_eq_true] at hw
    rw [List.cons_append, Lib.fieldsGo, (ink_space hw.1).1]
    simp only [Bool.false_eq_true, if_false]
    by_cases hw0 : w = []
    · subst hw0
      rw [List.nil_append, Lib.fieldsGo, hc]
      simp
    · rw [ih hw.2 hw0]
      simp
theorem fields_skip (c : UInt8) (r : List UInt8) (hc : Lib.isSp c = true) : Lib.fieldsGo [] (c :: r) = Lib.fieldsGo [] r := by
  rw [Lib.fieldsGo, hc]; rfl
theorem fieldsGoD_len : ∀ (f : Nat) (cur l : List UInt8), (Lib.fieldsGoD f cur l).flatten.length ≤ cur.length + l.length
  | 0, cur, l => by
    unfold Lib.fieldsGoD
    split <;> simp
  | f + 1, cur, l => by
    unfold Lib.fieldsGoD
    split
    · split <;> simp
    · have e := congrArg List.length (List.take_append_drop (Lib.decodeL l).2 l)
      rw [List.length_append] at e
      split
      · have ih := fieldsGoD_len f [] (l.drop (Lib.decodeL l).2)
        split
        · simp at ih ⊢; omega
        · simp at ih ⊢; omega
      · have ih := fieldsGoD_len f (cur ++ l.take (Lib.decodeL l).2) (l.drop (Lib.decodeL l).2)
        rw [List.length_append] at ih
        omega
theorem fieldsD_len (l : List UInt8) : (Lib.fieldsD l).flatten.length ≤ l.length := by
  have := fieldsGoD_len (l.length + 1) [] l
  simpa [Lib.fieldsD] using this

/-- a moment as a separator line has it, in its words -/
structure BoxParts (t : Int) (X W M D A C Y : List UInt8) : Prop where
  text : X = W ++ 32 :: (M ++ 32 :: (A ++ 32 :: (C ++ 32 :: Y)))
  lens : W.length = 3 ∧ M.length = 3 ∧ A.length = 2 ∧ C.length = 8 ∧ Y.length = 4
  day : (A.headD 0 = 32 ∧ D = A.drop 1) ∨ (A.headD 0 ≠ 32 ∧ D = A)
  fields : Lib.fieldsD (X ++ [10]) = [W, M, D, C, Y]
  words : wordsGo [] (joinB [D, M, Y, C, [43, 48, 48, 48, 48]]) = [D, M, Y, C, [43, 48, 48, 48, 48]]
  good : readV (ruleMail (joinB [D, M, Y, C, [43, 48, 48, 48, 48]])) = .good t
  ref : parsedI (refMailC [D, M, Y, C, [43, 48, 48, 48, 48]]) = (t, 0)

theorem box_parts {t y m d h mi s wk : Int} (t0 : 0 ≤ t) (t1 : t ≤ 4102444799) (hc : Cal.civ7 t y m d h mi s wk) : ∃ W M D A C Y, BoxParts t (boxL y m d h mi s wk) W M D A C Y := by
  obtain ⟨r1, r2, _, _⟩ := mom_of_civ7 t0 hc
  obtain ⟨y0, y1, m0, m1, d0, d1, h0, h1, i0, i1, s0, s1, k0, k1⟩ := Cal.civ7_bd t0 hc
  obtain ⟨a0, a1, ed, ld, vd⟩ := twos_parts (show 1 ≤ d by omega) (by omega : d < 100)
  obtain ⟨b0, b1, b2, em, pm, _⟩ := month_parts m0 m1
  obtain ⟨c0, c1, c2, c3, ey, ly, vy⟩ := year_parts y0 y1
  obtain ⟨h2, h3, eh, lh, vh⟩ := two_parts h0 (by omega : h < 100)
  obtain ⟨i2, i3, ei, li, vi⟩ := two_parts i0 (by omega : mi < 100)
  obtain ⟨s2, s3, es, ls, vs⟩ := two_parts s0 (by omega : s < 100)
  obtain ⟨w0, w1, w2, ew, _, _⟩ := week_parts k0 k1
  have iM : [b0, b1, b2].all inkC = true := by
    obtain ⟨k, rfl⟩ : ∃ k : Nat, m = (k : Int) + 1 := ⟨(m - 1).toNat, by omega⟩
    rw [← em]; exact mon_ink k (by omega)
  have iW : [w0, w1, w2].all inkC = true := by
    obtain ⟨k, rfl⟩ : ∃ k : Nat, wk = (k : Int) := ⟨wk.toNat, by omega⟩
    rw [← ew]; exact wk_ink k (by omega)
  have iY := digs_ink (n := 4) ly
  have iH := digs_ink (n := 2) lh
  have iI := digs_ink (n := 2) li
  have iS := digs_ink (n := 2) ls
  have iC : [h2, h3, 58, i2, i3, 58, s2, s3].all inkC = true := by
    simp only [List.all_cons, List.all_nil, Bool.and_true, Bool.and_eq_true] at iH iI iS ⊢
    exact ⟨iH.1, iH.2, by decide, iI.1, iI.2, by decide, iS.1, iS.2⟩
  have hb : boxL y m d h mi s wk = [w0, w1, w2] ++ 32 :: ([b0, b1, b2] ++ 32 :: ([a0, a1] ++ 32 :: ([h2, h3, 58, i2, i3, 58, s2, s3] ++ 32 :: [c0, c1, c2, c3]))) := by
    unfold boxL clockL
    rw [ed, em, ey, eh, ei, es, ew]
    rfl
  have hp8 : likeL [h2, h3, 58, i2, i3, 58, s2, s3] pat8 = true := by
    rw [show pat8 = [48, 48] ++ ([58] ++ ([48, 48] ++ ([58] ++ [48, 48]))) from rfl, likeL_append, likeL_append, likeL_append, likeL_append]
    simp only [List.length_cons, List.length_nil, List.take_succ_cons, List.take_zero, List.drop_succ_cons, List.drop_zero, Nat.zero_add]
    rw [lh, li, ls]; rfl
  obtain ⟨D, hD, lD, vD, iD, nD, xD⟩ : ∃ D : List UInt8, ((a0 = 32 ∧ D = [a1]) ∨ (a0 ≠ 32 ∧ D = [a0, a1])) ∧ (likeL D [48] = true ∨ likeL D [48, 48] = true) ∧ valueL D = d ∧ D.all inkC = true ∧ D ≠ [] ∧ D.length ≤ 2 := by
    by_cases e : a0 = 32
    · subst e
      have hd1 : isD a1 = true := by
        have : likeL [32, a1] [48, 48] = false := rfl
        rw [this, like2 32 a1 32 (by decide)] at ld
        simpa using ld
      rw [if_pos rfl] at vd
      exact ⟨[a1], .inl ⟨rfl, rfl⟩, .inl (by simp [likeL, likeB_dig, hd1]), vd, by rw [List.all_cons, isD_ink hd1]; rfl, by simp, by simp⟩
    · have hl2 : likeL [a0, a1] [48, 48] = true := by
        rw [like2 a0 a1 32 (by decide)] at ld
        have : (a0 == 32) = false := by rw [beq_eq_false_iff_ne]; exact e
        rw [this, Bool.false_and, Bool.false_or, Bool.and_eq_true] at ld
        exact ld.1
      rw [if_neg e] at vd
      exact ⟨[a0, a1], .inr ⟨e, rfl⟩, .inr hl2, vd, digs_ink (n := 2) hl2, by simp, by simp⟩
  have hfA : ∀ r, Lib.fieldsGo [] ([a0, a1] ++ 32 :: r) = D :: Lib.fieldsGo [] r := by
    intro r
    rcases hD with ⟨rfl, rfl⟩ | ⟨_, rfl⟩
    · rw [List.cons_append, fields_skip 32 _ (by decide)]
      exact fields_word [a1] r 32 iD (by simp) (by decide) []
    · exact fields_word [a0, a1] r 32 iD (by simp) (by decide) []
  have hasc : ∀ b ∈ boxL y m d h mi s wk ++ [10], b.toNat < 128 := by
    have a32 : (32 : UInt8).toNat < 128 := by decide
    have a10 : (10 : UInt8).toNat < 128 := by decide
    have ia : ∀ {l : List UInt8}, l.all inkC = true → ∀ b ∈ l, b.toNat < 128 := fun hl b hb => (ink_space (List.all_eq_true.1 hl b hb)).2.1
    have iA : ∀ b ∈ [a0, a1], b.toNat < 128 := by
      rcases hD with ⟨rfl, rfl⟩ | ⟨_, rfl⟩
      · intro b hb
        rcases List.mem_cons.1 hb with rfl | hb
        · exact a32
        · exact ia iD b hb
      · exact ia iD
    have app : ∀ {a : List UInt8} {c : UInt8} {r : List UInt8}, (∀ b ∈ a, b.toNat < 128) → c.toNat < 128 → (∀ b ∈ r, b.toNat < 128) → ∀ b ∈ a ++ c :: r, b.toNat < 128 := by
      intro a c r h1 h2 h3 b hb
      rcases List.mem_append.1 hb with h | h
      · exact h1 b h
      · rcases List.mem_cons.1 h with rfl | h
        · exact h2
        · exact h3 b h
    rw [hb]
    exact app (app (ia iW) a32 (app (ia iM) a32 (app iA a32 (app (ia iC) a32 (ia iY))))) a10 (fun b h => by cases h)
  have bl : ∀ {l : List UInt8}, l.all inkC = true → ∀ c ∈ l, blankC c = false := fun hl c hc => (ink_space (List.all_eq_true.1 hl c hc)).2.2
  have hj : joinB [D, [b0, b1, b2], [c0, c1, c2, c3], [h2, h3, 58, i2, i3, 58, s2, s3], [43, 48, 48, 48, 48]] = D ++ 32 :: ([b0, b1, b2] ++ 32 :: ([c0, c1, c2, c3] ++ 32 :: ([h2, h3, 58, i2, i3, 58, s2, s3] ++ 32 :: [43, 48, 48, 48, 48]))) := rfl
  have hw5 : wordsGo [] (joinB [D, [b0, b1, b2], [c0, c1, c2, c3], [h2, h3, 58, i2, i3, 58, s2, s3], [43, 48, 48, 48, 48]]) = [D, [b0, b1, b2], [c0, c1, c2, c3], [h2, h3, 58, i2, i3, 58, s2, s3], [43, 48, 48, 48, 48]] := by
    rw [hj, words_word _ _ (bl iD) nD, words_word _ _ (bl iM) (by simp), words_word _ _ (bl iY) (by simp), words_word _ _ (bl iC) (by simp), words_last _ (by decide) (by simp)]
  have hn32 : ∀ {l : List UInt8}, l.all inkC = true → (32 : UInt8) ∉ l := fun hl hm => absurd (List.all_eq_true.1 hl 32 hm) (by decide)
  have href : refMailC [D, [b0, b1, b2], [c0, c1, c2, c3], [h2, h3, 58, i2, i3, 58, s2, s3], [43, 48, 48, 48, 48]] = some (((y, m, d, h, mi, s), 0) : RuleD) := by
    rw [refMailC_cons, if_neg, refTailC_5, if_pos ⟨lD, by rw [pm]; omega, ly, .inr hp8⟩, zone_zero]
    · simp only [Option.bind_some, List.take_succ_cons, List.take_zero, List.drop_succ_cons, List.drop_zero, List.length_cons, List.length_nil, Nat.reduceAdd, if_true]
      rw [pm, vy, vD, vh, vi, vs, show m - 1 + 1 = m by omega]
    · intro hp
      have := plL_len 7 0 daysL (D.take 3) (by decide) hp
      rw [List.length_take] at this
      omega
  have hgood := read_good (R := ruleMail (joinB [D, [b0, b1, b2], [c0, c1, c2, c3], [h2, h3, 58, i2, i3, 58, s2, s3], [43, 48, 48, 48, 48]])) (by
    rw [mail_same]
    · exact href
    · intro w hw
      simp only [List.mem_cons, List.not_mem_nil, or_false] at hw
      rcases hw with rfl | rfl | rfl | rfl | rfl
      · exact ⟨nD, hn32 iD⟩
      · exact ⟨by simp, hn32 iM⟩
      · exact ⟨by simp, hn32 iY⟩
      · exact ⟨by simp, hn32 iC⟩
      · exact ⟨by simp, by decide⟩) r1 (by rw [r2]; exact t0) (by rw [r2]; exact t1)
  rw [r2] at hgood
  refine ⟨[w0, w1, w2], [b0, b1, b2], D, [a0, a1], [h2, h3, 58, i2, i3, 58, s2, s3], [c0, c1, c2, c3], hb, ⟨rfl, rfl, rfl, rfl, rfl⟩, ?_, ?_, hw5, hgood, ?_⟩
  · rcases hD with ⟨rfl, rfl⟩ | ⟨h, rfl⟩
    · exact .inl ⟨rfl, rfl⟩
    · exact .inr ⟨h, rfl⟩
  · rw [Lib.fieldsD_ascii _ hasc, hb]
    unfold Lib.fields
    have e : ([w0, w1, w2] ++ 32 :: ([b0, b1, b2] ++ 32 :: ([a0, a1] ++ 32 :: ([h2, h3, 58, i2, i3, 58, s2, s3] ++ 32 :: [c0, c1, c2, c3])))) ++ [10] = [w0, w1, w2] ++ 32 :: ([b0, b1, b2] ++ 32 :: ([a0, a1] ++ 32 :: ([h2, h3, 58, i2, i3, 58, s2, s3] ++ 32 :: ([c0, c1, c2, c3] ++ 10 :: [])))) := by simp
    rw [e, fields_word _ _ 32 iW (by simp) (by decide), fields_word _ _ 32 iM (by simp) (by decide), hfA, fields_word _ _ 32 iC (by simp) (by decide), fields_word _ _ 10 iY (by simp) (by decide)]
    rfl
  · rw [href]
    show madeI y m d h mi s 0 = _
    unfold madeI
    rw [if_neg (fun h => h r1), Int.sub_zero, r2, if_pos ⟨t0, t1⟩]

end Go.Proofs.YtcjnpklmfcbofaaGreatDoor
end

/- mbox's statements: the chapter's example. -/
set_option linter.unusedVariables false
set_option linter.unusedSimpArgs false
section
namespace Go.Proofs.YtcjnpklmfcbofaaGreatDoor
open Go.RowKit Go

theorem tab_of_head {W : World} {rest : List (String × DataW Unit)} (h : laidMet Tryz.prog (("internal/strconv.uint64pow10", Lib.tabData .u64 Lib.pow10Tab) :: rest) W) : Tab W :=
  Lib.tabIs_of_head tabNamed (by kernel_rfl) Tryz.underlying173 Tryz.underlying162 (by kernel_rfl) (by kernel_rfl) h

def exB : List UInt8 := [84, 104, 117, 32, 74, 97, 110, 32, 32, 49, 32, 48, 48, 58, 48, 48, 58, 48, 48, 32, 49, 57, 55, 48]
def exF : List UInt8 := [70, 114, 111, 109, 32, 97, 64, 98, 32, 84, 104, 117, 32, 74, 97, 110, 32, 32, 49, 32, 48, 48, 58, 48, 48, 58, 48, 48, 32, 49, 57, 55, 48, 10, 120, 10]
theorem ex_civ : Cal.civ7 0 1970 1 1 0 0 0 4 := by unfold Cal.civ7 Cal.civ; decide +kernel
theorem ex_box : boxL 1970 1 1 0 0 0 4 = exB := by decide +kernel
theorem ex_file : headL [97, 64, 98] exB ++ encodeL [120] = exF := by decide +kernel
theorem ex_scan : scanL exF = some [⟨0, 34, 36⟩] := by
  have h := scan_rows [(headL [97, 64, 98] exB, [120])] (fun e he => by
    obtain rfl := List.mem_singleton.1 he
    exact head_ok (by decide) (by decide))
  have e : (List.map entL [(headL [97, 64, 98] exB, [120])]).flatten = exF := by decide +kernel
  rw [e] at h
  rw [h]
  rfl

set_option maxRecDepth 100000 in
set_option maxHeartbeats 1000000 in
theorem alive_any (x : Addr) (w : World) (hE : w.cell? ⟨2, 0, none⟩ = some (errV x)) (hT : Tab w) : Calls Tryz.prog 5 #[] w fun e w' => e = .returned (.bool true) ∧ Below w.heap.size w w' := by
  have hen := entry_ok [97, 64, 98] [120] 0 w (by decide) (by decide) (by decide) (by decide) (by decide) hT
  have HE := Lib.hid hE
  clear hE hT
  go_enter Tryz.func5, Tryz.ntmps5
  go_wp2_with fail
  refine hen.mono ?_
  clear hen
  rintro e w1 ⟨y, m, d, h, mi, s, wk, hcv, rfl, hb1⟩
  obtain ⟨rfl, rfl, rfl, rfl, rfl, rfl, rfl⟩ := civ7_eq ex_civ hcv
  rw [ex_box, ex_file]
  clear hcv
  have hsc := scan_any exF x w1 (by decide) ((hb1.cell (p := ⟨2, 0, none⟩) (cell_lt HE.out)).trans HE.out)
  rw [ex_scan] at hsc
  have HSC := Lib.hid hsc
  clear hsc
  go_wp2_with fail
  refine HSC.out.mono ?_
  rintro e w2 ⟨⟨v, rfl, ho⟩, hb2⟩
  obtain ⟨g, cap, rfl, _, hgl⟩ := ho.parts.resolve_left (fun h => by cases h.2)
  have y0 : w2.cell? ⟨g, 0, none⟩ = some (.int .i64 0) := ho.cell 0 0 ⟨0, 34, 36⟩ rfl (by decide)
  have y1 : w2.cell? ⟨g, 1, none⟩ = some (.int .i64 34) := ho.cell 0 1 ⟨0, 34, 36⟩ rfl (by decide)
  have y2 : w2.cell? ⟨g, 2, none⟩ = some (.int .i64 36) := ho.cell 0 2 ⟨0, 34, 36⟩ rfl (by decide)
  clear ho HSC HE
  simp only [List.length_cons, List.length_nil, Nat.zero_add]
  unfold exF
  go_wp2
  go_ret
  exact ⟨by first | rfl | simp, hb1.trans (hb2.mono hb1.size)⟩

end Go.Proofs.YtcjnpklmfcbofaaGreatDoor
end

/- mbox.Separator. -/
set_option linter.unusedVariables false
set_option linter.unusedSimpArgs false
section
namespace Go.Proofs.YtcjnpklmfcbofaaGreatDoor
open Go.RowKit Go

theorem spaceNamed : Tryz.prog.globalNamed "strings.asciiSpace" = some 13 := by kernel_rfl
/-- the tables of blanks -/
def Spaces (w : World) : Prop := Lib.TabIs Tryz.prog w "strings.asciiSpace" .u8 Lib.asciiSpaceTab ∧ Lib.WhiteTab 14 w
theorem Spaces.lt {w : World} (h : Spaces w) : 13 < w.heap.size := cell_lt (Lib.TabIs.cell h.1 spaceNamed 0 (by rw [Lib.asciiSpaceTab_length]; decide))
theorem Spaces.below {w w' : World} (h : Spaces w) (hb : Below w.heap.size w w') : Spaces w' := ⟨var?_below hb spaceNamed h.lt h.1, WhiteTab_below h.2 hb⟩

/-- strings.Fields -/
def FieldsP (l : List UInt8) (w : World) (e : Ending) (w' : World) : Prop := ∃ A, e = .returned (.slice (some ⟨A, 0, none⟩) (Lib.fieldsD l).length (Lib.fieldsD l).length) ∧ OwnS w' w.heap.size (.slice (some ⟨A, 0, none⟩) (Lib.fieldsD l).length (Lib.fieldsD l).length) (Lib.fieldsD l) ∧ Below w.heap.size w w'
theorem fields_any (l : List UInt8) (w : World) (hl : l.length ≤ 1000000) (hS : Spaces w) : Calls Tryz.prog 21 #[.string (bs l)] w (FieldsP l w) :=
  (Tryz.strings_Fields_any (bs l) w (by rw [bs_size]; omega) hS.1 hS.2).mono fun e w' ⟨A, h1, h2, h3, h4⟩ => ⟨A, h1, h3, h4⟩
theorem cutPrefix_any (l p : List UInt8) (w : World) : Calls Tryz.prog 19 #[.string (bs l), .string (bs p)] w fun e w' => e = .returned (.tuple #[.string (bs (Lib.trimPrefix l p)), .bool (Lib.hasPrefix l p)]) ∧ w = w' :=
  (Tryz.strings_CutPrefix (bs l) (bs p) w).mono fun _ _ ⟨h, k⟩ => ⟨h, k.symm⟩
theorem OwnS.at {w : World} {B g n cap : Nat} {ls : List (List UInt8)} (h : OwnS w B (.slice (some ⟨g, 0, none⟩) n cap) ls) (k : Nat) (x : List UInt8) (hk : ls[k]? = some x) : w.cell? ⟨g, k, none⟩ = some (.string (bs x)) := by
  obtain ⟨hlt, hx⟩ := List.getElem?_eq_some_iff.1 hk
  have := (OwnS.set h hlt []).1
  rwa [show ls.getD k [] = x by simp [List.getD, hk]] at this
theorem cell_new (w : World) (cs : Array Value) (t : TypeId) (k : Nat) : (w.alloc (.cells cs t)).cell? ⟨w.heap.size, k, none⟩ = cs[k]? := by
  have hn := heap_new w (.cells cs t)
  simp only [World.cell?, hn]
  simp
theorem strs5 (w : World) (a b c d e : List UInt8) : StrsAt (w.alloc (.cells #[.string (bs a), .string (bs b), .string (bs c), .string (bs d), .string (bs e)] 9)) (.slice (some ⟨w.heap.size, 0, none⟩) 5 5) [a, b, c, d, e] := by
  refine .inr ⟨w.heap.size, 0, 5, rfl, by simp, by simp, fun j hj => ?_⟩
  rw [cell_new]
  match j, hj with
  | 0, _ => rfl
  | 1, _ => rfl
  | 2, _ => rfl
  | 3, _ => rfl
  | 4, _ => rfl
  | n + 5, hj => simp at hj; omega

/-! plain -/
theorem sep_facts {line sender : List UInt8} {t : Int} (h : SepIs line sender t) : ∃ X W M D C Y, line = [70, 114, 111, 109, 32] ++ (sender ++ 32 :: (X ++ [10])) ∧ Lib.hasPrefix line [70, 114, 111, 109, 32] = true ∧ cutB 32 (Lib.trimPrefix line [70, 114, 111, 109, 32]) = some (sender, X ++ [10]) ∧ senderOk sender = true ∧
    Lib.fieldsD (X ++ [10]) = [W, M, D, C, Y] ∧ readV (ruleMail (joinB (wordsGo [] (joinB [D, M, Y, C, [43, 48, 48, 48, 48]])))) = .good t ∧ ∀ y m d hh mi s wk, Cal.civ7 t y m d hh mi s wk → boxL y m d hh mi s wk = X := by
  obtain ⟨hs, t0, t1, y, m, d, hh, mi, s, wk, hcv, rfl⟩ := h
  obtain ⟨W, M, D, A, C, Y, hp⟩ := box_parts t0 t1 hcv
  have h32 : (32 : UInt8) ∉ sender := by
    intro hm
    unfold senderOk at hs
    rw [Bool.and_eq_true, List.all_eq_true] at hs
    exact absurd (hs.1 32 hm) (by decide)
  have hx : ∀ y' m' d' hh' mi' s' wk', Cal.civ7 t y' m' d' hh' mi' s' wk' → boxL y' m' d' hh' mi' s' wk' = boxL y m d hh mi s wk := by
    intro y' m' d' hh' mi' s' wk' h'
    obtain ⟨rfl, rfl, rfl, rfl, rfl, rfl, rfl⟩ := civ7_eq hcv h'
    rfl
  obtain ⟨X, hX⟩ : ∃ X, boxL y m d hh mi s wk = X := ⟨_, rfl⟩
  rw [hX] at hp hx ⊢
  have eL : headL sender X = [70, 114, 111, 109, 32] ++ (sender ++ 32 :: (X ++ [10])) := by simp [headL, fromL]
  have e1 : Lib.hasPrefix (headL sender X) [70, 114, 111, 109, 32] = true := by rw [eL]; unfold Lib.hasPrefix; simp
  have e2 : Lib.trimPrefix (headL sender X) [70, 114, 111, 109, 32] = sender ++ 32 :: (X ++ [10]) := by unfold Lib.trimPrefix; rw [if_pos e1, eL]; simp
  refine ⟨X, W, M, D, C, Y, eL, e1, by rw [e2, cutB_of sender _ h32], hs, hp.fields, by rw [hp.words]; exact hp.good, hx⟩
theorem good_range {R : Option (RuleD × List UInt8)} {t : Int} (h : readV R = .good t) : 0 ≤ t ∧ t ≤ 4102444799 := by
  unfold readV at h
  split at h
  · cases h
  · split at h
    · cases h
    · split at h
      · cases h
      · split at h
        · rename_i hr
          cases h
          exact hr
        · cases h
/-- what Separator hands back -/
def SepOut (R : Option (List UInt8 × Int)) (ev : Value) (e : Ending) (w w' : World) : Prop :=
  (match R with
   | none => e = .returned (.tuple #[.string (bs []), .int .i64 0, ev])
   | some p => e = .returned (.tuple #[.string (bs p.1), .int .i64 p.2, .nilIface])) ∧ Below w.heap.size w w'
def SepR (line : List UInt8) (R : Option (List UInt8 × Int)) : Prop := ∀ s t, R = some (s, t) ↔ SepIs line s t
theorem sep_one {line s s' : List UInt8} {t t' : Int} (h : SepIs line s t) (h' : SepIs line s' t') : s = s' ∧ t = t' := by
  obtain ⟨X, W, M, D, C, Y, _, _, hc, _, hf, hg, hx⟩ := sep_facts h
  obtain ⟨X', W', M', D', C', Y', _, _, hc', _, hf', hg', hx'⟩ := sep_facts h'
  rw [hc] at hc'
  obtain ⟨rfl, e⟩ := Prod.mk.inj (Option.some.inj hc')
  rw [← e, hf] at hf'
  simp only [List.cons.injEq, and_true] at hf'
  obtain ⟨rfl, rfl, rfl, rfl, rfl⟩ := hf'
  rw [hg] at hg'
  cases hg'
  exact ⟨rfl, rfl⟩
open Classical in
theorem sepR_exists (line : List UInt8) : ∃ R, SepR line R := by
  by_cases h : ∃ s t, SepIs line s t
  · obtain ⟨s, t, h⟩ := h
    refine ⟨some (s, t), fun s' t' => ⟨fun e => ?_, fun h' => ?_⟩⟩
    · obtain ⟨rfl, rfl⟩ := Prod.mk.inj (Option.some.inj e)
      exact h
    · obtain ⟨rfl, rfl⟩ := sep_one h h'
      rfl
  · exact ⟨none, fun s t => ⟨fun e => (by cases e), fun h' => absurd ⟨s, t, h'⟩ h⟩⟩
theorem sepR_none {line : List UInt8} {R : Option (List UInt8 × Int)} (h : SepR line R) (hn : ∀ s t, ¬ SepIs line s t) : R = none := by
  cases R with
  | none => rfl
  | some p => exact absurd ((h p.1 p.2).1 rfl) (hn _ _)

end Go.Proofs.YtcjnpklmfcbofaaGreatDoor
end

/- mbox.Separator: the walk. -/
set_option linter.unusedVariables false
set_option linter.unusedSimpArgs false
section
namespace Go.Proofs.YtcjnpklmfcbofaaGreatDoor
open Go.RowKit Go

theorem strs5d (w : World) (a b c d e : List UInt8) : StrsAt ((w.alloc (.cells #[.string (bs a), .string (bs b), .string (bs c), .string (bs d), .string (bs e)] 9)).drew) (.slice (some ⟨w.heap.size, 0, none⟩) 5 5) [a, b, c, d, e] :=
  (strs5 w a b c d e).below (Below.refl _ _).drew

set_option maxRecDepth 100000 in
set_option maxHeartbeats 8000000 in
theorem separator_any (line : List UInt8) (R : Option (List UInt8 × Int)) (x x0 : Addr) (w : World) (hE : w.cell? ⟨2, 0, none⟩ = some (errV x)) (hE0 : w.cell? ⟨1, 0, none⟩ = some (errV x0)) (hT : Tab w) (hS : Spaces w) (hl : line.length ≤ 2000) (hR : SepR line R) :
    Calls Tryz.prog 10 #[.string (bs line)] w (SepOut R (errV x) · w ·) := by
  have hcp := fun w0 => cutPrefix_any line [70, 114, 111, 109, 32] w0
  have hrl : (Lib.trimPrefix line [70, 114, 111, 109, 32]).length ≤ 2000 := by
    unfold Lib.trimPrefix
    split
    · rw [List.length_drop]; omega
    · exact hl
  have hpre : Lib.hasPrefix line [70, 114, 111, 109, 32] = true → line = [70, 114, 111, 109, 32] ++ Lib.trimPrefix line [70, 114, 111, 109, 32] := by
    intro h
    unfold Lib.trimPrefix
    rw [if_pos h]
    obtain ⟨r, rfl⟩ := List.isPrefixOf_iff_prefix.1 h
    simp
  have hno : Lib.hasPrefix line [70, 114, 111, 109, 32] = false → R = none := fun h => sepR_none hR (fun s t hs => by
    obtain ⟨X, W, M, D, C, Y, _, h1, _⟩ := sep_facts hs
    rw [h] at h1; cases h1)
  have hno2 : cutB 32 (Lib.trimPrefix line [70, 114, 111, 109, 32]) = none → R = none := fun h => sepR_none hR (fun s t hs => by
    obtain ⟨X, W, M, D, C, Y, _, _, h1, _⟩ := sep_facts hs
    rw [h] at h1; cases h1)
  have hno3 : ∀ a r, cutB 32 (Lib.trimPrefix line [70, 114, 111, 109, 32]) = some (a, r) → (∀ s t X W M D C Y, s = a → r = X ++ [10] → senderOk s = true → Lib.fieldsD (X ++ [10]) = [W, M, D, C, Y] → readV (ruleMail (joinB (wordsGo [] (joinB [D, M, Y, C, [43, 48, 48, 48, 48]])))) = .good t → (∀ y m d hh mi s wk, Cal.civ7 t y m d hh mi s wk → boxL y m d hh mi s wk = X) → False) → R = none := fun a r h hf => sepR_none hR (fun s t hs => by
    obtain ⟨X, W, M, D, C, Y, _, _, h1, h2, h3, h4, h5⟩ := sep_facts hs
    rw [h] at h1
    obtain ⟨e1, e2⟩ := Prod.mk.inj (Option.some.inj h1)
    exact hf s t X W M D C Y e1.symm e2 h2 h3 h4 h5)
  have hcut := fun w0 a r (h : cutB 32 (Lib.trimPrefix line [70, 114, 111, 109, 32]) = some (a, r)) => cutOne_some 32 _ a r w0 h (by omega)
  have hcutn := fun w0 (h : cutB 32 (Lib.trimPrefix line [70, 114, 111, 109, 32]) = none) => cutOne_none 32 _ w0 h
  obtain ⟨b, hb⟩ : ∃ b, Lib.hasPrefix line [70, 114, 111, 109, 32] = b := ⟨_, rfl⟩
  obtain ⟨rs, hrs⟩ : ∃ rs, Lib.trimPrefix line [70, 114, 111, 109, 32] = rs := ⟨_, rfl⟩
  rw [hb, hrs] at hcp hpre
  rw [hb] at hno
  rw [hrs] at hrl hno2 hno3 hcut hcutn
  have HCP := Lib.hid hcp
  have HNO := Lib.hid hno
  have HNO2 := Lib.hid hno2
  have HNO3 := Lib.hid hno3
  have HCUT := Lib.hid hcut
  have HCUTN := Lib.hid hcutn
  have HPRE := Lib.hid hpre
  have HE := Lib.hid hE
  have HE0 := Lib.hid hE0
  have HT := Lib.hid hT
  have HS := Lib.hid hS
  have HR := Lib.hid hR
  clear hcp hno hno2 hno3 hcut hcutn hpre hE hE0 hT hS hR hb hrs
  go_enter Tryz.func10, Tryz.ntmps10
  go_wp2_with fail
  refine (HCP.out _).mono ?_
  rintro e w1 ⟨rfl, rfl⟩
  clear HCP
  rcases hc : cutB 32 rs with _ | ⟨a, r⟩
  · have hR0 := HNO2.out hc
    subst hR0
    have hcn := fun w0 => HCUTN.out w0 hc
    have HCN := Lib.hid hcn
    clear HNO HNO2 HNO3 HCUT HCUTN HPRE HR hcn hc
    cases b with
    | true =>
      go_wp2_with fail
      refine (HCN.out _).mono ?_
      rintro e w2 ⟨rfl, hb2⟩
      have hE2 := (hb2.cell (cell_lt HE.out)).trans HE.out
      simp only [errV] at hE2
      go_wp2
      go_quiet (fail)
      go_wp2
      go_ret3
      exact ⟨rfl, below_drewN hb2 _⟩
    | false =>
      go_wp2_with fail
      refine (HCN.out _).mono ?_
      rintro e w2 ⟨rfl, hb2⟩
      have hE2 := (hb2.cell (cell_lt HE.out)).trans HE.out
      simp only [errV] at hE2
      go_wp2
      go_quiet (fail)
      go_wp2
      go_ret3
      exact ⟨rfl, below_drewN hb2 _⟩
  have hcs := fun w0 => HCUT.out w0 a r hc
  have hno := HNO3.out a r hc
  obtain ⟨hrs, h32⟩ := cutB_some hc
  have hlen : rs.length = a.length + 1 + r.length := by rw [hrs]; simp; omega
  have hal : a.length ≤ 2000 := by omega
  have hrl2 : r.length ≤ 2000 := by omega
  have HCS := Lib.hid hcs
  have HNA := Lib.hid hno
  have HRS := Lib.hid hrs
  clear HNO2 HNO3 HCUT HCUTN hcs hno hrs hlen hc h32
  cases b with
  | false =>
    have hR0 := HNO.out rfl
    subst hR0
    clear HNO HPRE HNA HR
    go_wp2_with fail
    refine (HCS.out _).mono ?_
    rintro e w2 ⟨rfl, hb2⟩
    have hE2 := (hb2.cell (cell_lt HE.out)).trans HE.out
    simp only [errV] at hE2
    go_wp2
    go_quiet (fail)
    go_wp2
    go_ret3
    exact ⟨rfl, below_drewN hb2 _⟩
  | true =>
  have hline := HPRE.out rfl
  have HLINE := Lib.hid hline
  clear HNO HPRE hline
  have hri := fun w0 => right_any a w0 (by omega)
  obtain ⟨so, hso⟩ : ∃ so, senderOk a = so := ⟨_, rfl⟩
  rw [hso] at hri
  have HSO := Lib.hid hso
  have HRI := Lib.hid hri
  clear hso hri
  go_wp2_with fail
  refine (HCS.out _).mono ?_
  rintro e w2 ⟨rfl, hb2⟩
  go_wp2_with fail
  refine (HRI.out _).mono ?_
  rintro e w3 ⟨rfl, hb3⟩
  have hB3 := hb2.trans (hb3.mono hb2.size)
  clear HCS HRI
  cases so with
  | false =>
    have hR0 : R = none := HNA.out (fun s t X W M D C Y h1 h2 h3 _ _ _ => by rw [h1, HSO.out] at h3; cases h3)
    subst hR0
    have hE2 := (hB3.cell (cell_lt HE.out)).trans HE.out
    simp only [errV] at hE2
    clear HNA HR HLINE HRS
    go_wp2
    go_quiet (fail)
    go_wp2
    go_ret3
    exact ⟨rfl, below_drewN hB3 _⟩
  | true =>
  have hfi := fields_any r w3 (by omega) (HS.out.below hB3)
  have hfl := fieldsD_len r
  obtain ⟨ws, hws⟩ : ∃ ws, Lib.fieldsD r = ws := ⟨_, rfl⟩
  rw [hws] at hfl
  unfold FieldsP at hfi
  rw [hws] at hfi
  have HWS := Lib.hid hws
  have HFI := Lib.hid hfi
  clear hws hfi
  go_wp2_with fail
  refine HFI.out.mono ?_
  rintro e w4 ⟨P, rfl, ho, hb4⟩
  have hB4 := hB3.trans (hb4.mono hB3.size)
  clear HFI
  by_cases h5 : ws.length = 5
  case neg =>
    have h5' : ((ws.length : Int) != 5) = true := by simp; omega
    have hR0 : R = none := HNA.out (fun s t X W M D C Y _ h2 _ h4 _ _ => by rw [← h2, HWS.out] at h4; rw [h4] at h5; exact h5 rfl)
    subst hR0
    have hE2 := (hB4.cell (cell_lt HE.out)).trans HE.out
    simp only [errV] at hE2
    clear HNA HR HLINE HRS ho h5 HWS
    go_wp2
    go_quiet (fail)
    go_wp2
    go_ret3
    exact ⟨rfl, below_drewN hB4 _⟩
  obtain ⟨u0, u1, u2, u3, u4, hu⟩ : ∃ u0 u1 u2 u3 u4, ws = [u0, u1, u2, u3, u4] := by
    match ws, h5 with
    | [u0, u1, u2, u3, u4], _ => exact ⟨_, _, _, _, _, rfl⟩
  subst hu
  have q1 : w4.cell? ⟨P, 1, none⟩ = some (.string (bs u1)) := ho.at 1 u1 rfl
  have q2 : w4.cell? ⟨P, 2, none⟩ = some (.string (bs u2)) := ho.at 2 u2 rfl
  have q3 : w4.cell? ⟨P, 3, none⟩ = some (.string (bs u3)) := ho.at 3 u3 rfl
  have q4 : w4.cell? ⟨P, 4, none⟩ = some (.string (bs u4)) := ho.at 4 u4 rfl
  have hjl : (joinB [u2, u1, u4, u3, [43, 48, 48, 48, 48]]).length ≤ 2100 := by
    have e : joinB [u2, u1, u4, u3, [43, 48, 48, 48, 48]] = u2 ++ 32 :: (u1 ++ 32 :: (u4 ++ 32 :: (u3 ++ 32 :: [43, 48, 48, 48, 48]))) := rfl
    rw [e]
    simp at hfl ⊢
    omega
  simp only [List.length_cons, List.length_nil, Nat.zero_add, Nat.reduceAdd]
  clear ho h5 hfl
  have hz4 := hB4.size
  have hpm := fun w0 h0 h1 => parseMail_any (joinB [u2, u1, u4, u3, [43, 48, 48, 48, 48]]) w0 x x0 h0 h1 (by omega)
  obtain ⟨O, hO⟩ : ∃ O, readV (ruleMail (joinB (wordsGo [] (joinB [u2, u1, u4, u3, [43, 48, 48, 48, 48]])))) = O := ⟨_, rfl⟩
  rw [hO] at hpm
  obtain ⟨v3, v4, hov⟩ : ∃ v3 v4, outV x x0 O = .tuple #[v3, v4] := by
    rcases O with t | _ | k
    · exact ⟨_, _, rfl⟩
    · exact ⟨_, _, rfl⟩
    · exact ⟨_, _, rfl⟩
  rw [hov] at hpm
  have HOV := Lib.hid hov
  clear hov
  have hjn := fun w0 v h => joinSp_any w0 v [u2, u1, u4, u3, [43, 48, 48, 48, 48]] h (by simp) (by omega)
  obtain ⟨J, hJ⟩ : ∃ J, joinB [u2, u1, u4, u3, [43, 48, 48, 48, 48]] = J := ⟨_, rfl⟩
  rw [hJ] at hpm hjn
  have HPM := Lib.hid hpm
  have HJN := Lib.hid hjn
  have HO := Lib.hid hO
  clear hpm hjn hO hJ hjl
  have hE4 := (hB4.cell (cell_lt HE.out)).trans HE.out
  have hE04 := (hB4.cell (cell_lt HE0.out)).trans HE0.out
  have HE4 := Lib.hid hE4
  have HE04 := Lib.hid hE04
  clear hE4 hE04
  go_upto_region 8 with (fail)
  go_cut [3, 4] (fun c3 c4 wc => v3 = c3 ∧ v4 = c4 ∧ Below w4.heap.size w4 wc)
  case first =>
    have hkeep : ∀ wx, Below w4.heap.size w4 wx → (Below w4.heap.size w4 wx ∧ wx.cell? ⟨P, 1, none⟩ = some (.string (bs u1)) ∧ wx.cell? ⟨P, 2, none⟩ = some (.string (bs u2)) ∧ wx.cell? ⟨P, 3, none⟩ = some (.string (bs u3)) ∧ wx.cell? ⟨P, 4, none⟩ = some (.string (bs u4))) := fun wx h => ⟨h, (h.cell (cell_lt q1)).trans q1, (h.cell (cell_lt q2)).trans q2, (h.cell (cell_lt q3)).trans q3, (h.cell (cell_lt q4)).trans q4⟩
    have hover : ∀ wx o w5, Below w4.heap.size w4 wx → Below (wx.alloc o).drew.heap.size (wx.alloc o).drew w5 → Below w4.heap.size w4 w5 := fun wx o w5 h1 h2 => (h1.alloc h1.size o).drew.trans (h2.mono (h1.alloc h1.size o).drew.size)
    have hthru : ∀ w5 w6, Below w4.heap.size w4 w5 → Below w5.heap.size w5 w6 → Below w4.heap.size w4 w6 := fun w5 w6 h1 h2 => h1.trans (h2.mono h1.size)
    have hself : Below w4.heap.size w4 w4 := Below.refl _ _
    go_region_held3 (fun wx => Below w4.heap.size w4 wx ∧ wx.cell? ⟨P, 1, none⟩ = some (.string (bs u1)) ∧ wx.cell? ⟨P, 2, none⟩ = some (.string (bs u2)) ∧ wx.cell? ⟨P, 3, none⟩ = some (.string (bs u3)) ∧ wx.cell? ⟨P, 4, none⟩ = some (.string (bs u4))) ((refine hkeep _ ?_; first | exact (Below.refl _ _).drew | assumption | exact Below.alloc (by assumption) (Below.size (by assumption)) _ | exact (Below.alloc (by assumption) (Below.size (by assumption)) _).drew)) ((first | (go_at_call 23; (refine (HJN.out _ _ (strs5d _ _ _ _ _ _)).mono ?_; rintro e w5 ⟨rfl, hb5⟩; have hB5 := hover _ _ _ (by assumption) hb5)) | (go_at_call 22; (refine Calls.mono (HPM.out _ ?ca ?cb) ?cc; (case ca => exact ((by assumption : Below w4.heap.size w4 _).cell (cell_lt HE4.out)).trans HE4.out); (case cb => exact ((by assumption : Below w4.heap.size w4 _).cell (cell_lt HE04.out)).trans HE04.out); rintro e w6 ⟨rfl, hb6⟩; have hB6 := hthru _ _ (by assumption) hb6))))
    all_goals
      go_wp2
      go_meet
      case rel => exact ⟨rfl, rfl, by assumption⟩
  case rest =>
    obtain ⟨rfl, rfl, hbc⟩ := hcut
    have hBc := hB4.trans (hbc.mono hB4.size)
    have hEc := (hBc.cell (cell_lt HE.out)).trans HE.out
    clear HPM HJN HE4 HE04 q1 q2 q3 q4
    rcases O with t | k
    case bad =>
      have hR0 : R = none := HNA.out (fun s t X W M D C Y _ h2 _ h4 h5 _ => by
        rw [← h2, HWS.out] at h4
        simp only [List.cons.injEq, and_true] at h4
        obtain ⟨rfl, rfl, rfl, rfl, rfl⟩ := h4
        rw [HO.out] at h5; cases h5)
      subst hR0
      obtain ⟨z, rfl, rfl⟩ : ∃ z, v3 = .int .i64 0 ∧ v4 = errV z := by
        have h9 := HOV.out
        rcases k with _ | k
        · unfold outV at h9
          simp only [Value.tuple.injEq] at h9
          have := congrArg Array.toList h9
          simp at this
          exact ⟨x0, this.1.symm, this.2.symm⟩
        · unfold outV at h9
          simp only [Value.tuple.injEq] at h9
          have := congrArg Array.toList h9
          simp at this
          exact ⟨x, this.1.symm, this.2.symm⟩
      simp only [errV] at hEc ⊢
      clear HNA HR HLINE HRS HWS HO HOV
      go_wp2
      go_quiet (fail)
      go_wp2
      go_ret3
      exact ⟨rfl, below_drewN hBc _⟩
    obtain ⟨rfl, rfl⟩ : v3 = .int .i64 t ∧ v4 = .nilIface := by
      have h9 := HOV.out
      unfold outV at h9
      simp only [Value.tuple.injEq] at h9
      have := congrArg Array.toList h9
      simp at this
      exact ⟨this.1.symm, this.2.symm⟩
    obtain ⟨t0, t1⟩ := good_range HO.out
    have hbx := box_in t wc (HT.out.below hBc) t0 t1
    have HBX := Lib.hid hbx
    clear hbx HOV
    go_wp2_with fail
    refine HBX.out.mono ?_
    rintro e w5 ⟨y, m, d, hh, mi, s, wk, hcv, rfl, hb5⟩
    have hB5 := hBc.trans (hb5.mono hBc.size)
    have hE5 := (hb5.cell (cell_lt hEc)).trans hEc
    obtain ⟨X, hX⟩ : ∃ X, boxL y m d hh mi s wk = X := ⟨_, rfl⟩
    have hXl := boxL_len (Cal.civ7_bd t0 hcv)
    rw [hX] at hXl ⊢
    have hba := bs_append X [10]
    obtain ⟨X1, hX1⟩ : ∃ X1, X ++ [10] = X1 := ⟨_, rfl⟩
    rw [hX1] at hba
    have HX := Lib.hid hX
    have HX1 := Lib.hid hX1
    have HCV := Lib.hid hcv
    clear hX hX1 hcv HBX hEc
    by_cases hq : X1 = r
    · subst hq
      have hR1 : R = some (a, t) := (HR.out a t).2 ⟨HSO.out, t0, t1, y, m, d, hh, mi, s, wk, HCV.out, by rw [HX.out, HLINE.out, HRS.out, ← HX1.out]; simp [headL, fromL]⟩
      subst hR1
      clear HNA HR HLINE HRS HWS HO HX HX1 HCV hE5
      go_wp2
      go_ret3
      exact ⟨rfl, hB5⟩
    · have hR0 : R = none := HNA.out (fun s' t' X' W M D C Y _ h2 _ h4 h5 h6 => by
        rw [← h2, HWS.out] at h4
        simp only [List.cons.injEq, and_true] at h4
        obtain ⟨rfl, rfl, rfl, rfl, rfl⟩ := h4
        rw [HO.out] at h5
        cases h5
        have h7 := h6 _ _ _ _ _ _ _ HCV.out
        rw [HX.out] at h7
        exact hq (by rw [← HX1.out, h7, h2]))
      subst hR0
      have hq2 : (X1 == r) = false := by rw [beq_eq_false_iff_ne]; exact hq
      simp only [errV] at hE5
      clear HNA HR HLINE HRS HWS HO HX HX1 HCV
      go_wp2
      go_quiet (fail)
      go_wp2
      go_ret3
      exact ⟨rfl, below_drewN hB5 _⟩

end Go.Proofs.YtcjnpklmfcbofaaGreatDoor
end

/- The reference's words. -/
set_option linter.unusedVariables false
set_option linter.unusedSimpArgs false
section
namespace Go.Proofs.YtcjnpklmfcbofaaGreatDoor
open Go.RowKit Go

/-- a row of strings at an address -/
def SV (w : World) (v : Value) (ls : List (List UInt8)) : Prop := ∃ b o c, v = .slice (some ⟨b, o, none⟩) ls.length c ∧ ls.length ≤ c ∧ b < w.heap.size ∧ ∀ j, j < ls.length → w.cell? ⟨b, o + j, none⟩ = some (.string (bs (ls.getD j [])))
theorem SV.below {w w' : World} {v : Value} {ls : List (List UInt8)} (h : SV w v ls) (hb : Below w.heap.size w w') : SV w' v ls := by
  obtain ⟨b, o, c, h1, h2, h3, h4⟩ := h
  exact ⟨b, o, c, h1, h2, Nat.lt_of_lt_of_le h3 hb.size, fun j hj => (hb.cell (p := ⟨b, o + j, none⟩) h3).trans (h4 j hj)⟩
theorem OwnS.sv {w : World} {B : Nat} {v : Value} {ls : List (List UInt8)} (h : OwnS w B v ls) (hv : v ≠ .slice none 0 0) : SV w v ls := by
  rcases h.strs with ⟨h0, _⟩ | ⟨b, o, c, h1, h2, h3, h4⟩
  · exact absurd h0 hv
  · exact ⟨b, o, c, h1, h2, h3, h4⟩

theorem wordsGo_cons (cur : List UInt8) (c : UInt8) (l : List UInt8) : wordsGo cur (c :: l) = if blankC c = true then (if cur = [] then wordsGo [] l else cur :: wordsGo [] l) else wordsGo (cur ++ [c]) l := rfl
theorem wordsGo_end (cur : List UInt8) : wordsGo cur [] = if cur = [] then [] else [cur] := rfl

/-- words handed back -/
def WordsP (B : Nat) (ls : List (List UInt8)) (w : World) (e : Ending) (w' : World) : Prop := ∃ v, e = .returned v ∧ OwnS w' B v ls ∧ v ≠ .slice none 0 0 ∧ Below B w w'

set_option maxRecDepth 100000 in
set_option maxHeartbeats 4000000 in
theorem refWords_any (l : List UInt8) (w : World) (hl : l.length ≤ 1099511627776) : Calls Tryz.prog 63 #[.string (bs l)] w (WordsP w.heap.size (wordsGo [] l) w) := by
  obtain ⟨i0, hi, hz0, hz1, hz2⟩ := info_parts info_str
  obtain ⟨W, hW⟩ : ∃ W, wordsGo [] l = W := ⟨_, rfl⟩
  rw [hW]
  have HW := Lib.hid hW
  clear hW
  have o0 : OwnS (w.alloc (.cells #[] 9)) w.heap.size (.slice (some ⟨w.heap.size, 0, none⟩) 0 0) [] := World.ownsRow_lit w #[] 0 (Nat.le_refl _) (by decide) rfl
  have b0 : Below w.heap.size w (w.alloc (.cells #[] 9)) := (Below.refl _ _).alloc (Nat.le_refl _) _
  go_enter Tryz.func63, Tryz.ntmps63
  go_wp2
  go_loopw [3, 4, 5] (fun out cw i wr => ∃ (k : Nat) (ls : List (List UInt8)) (cur : List UInt8), k ≤ l.length + 1 ∧ i = .int .i64 k ∧ OwnS wr w.heap.size out ls ∧ out ≠ .slice none 0 0 ∧ cw = .string (bs cur) ∧ cur.length ≤ k ∧ ls.length ≤ k ∧ Hid (if k ≤ l.length then ls ++ wordsGo cur (l.drop k) = W else ls = W) ∧ Below w.heap.size w wr) (fun _ _ i _ => l.length + 1 - (intOf i).toNat)
  case atStart => exact ⟨0, [], [], Nat.zero_le _, rfl, o0, by simp, rfl, Nat.le_refl _, Nat.le_refl _, by show (if _ then _ else _); rw [if_pos (Nat.zero_le _), List.drop_zero, HW.out]; rfl, b0⟩
  case round =>
    obtain ⟨k, ls, cur, hk, rfl, hown, hnn, rfl, hcl, hlk, hg, hB⟩ := hrel
    have hzr := hB.size
    by_cases hkl : k ≤ l.length
    · have hg2 := hg.out
      rw [if_pos hkl] at hg2
      have hle : (k : Int) ≤ l.length := by omega
      -- what the blank (or the end) leaves
      have key : (k = l.length ∨ ∃ h : k < l.length, blankC l[k] = true) → Hid (if k + 1 ≤ l.length then (ls ++ (if cur = [] then [] else [cur])) ++ wordsGo [] (l.drop (k + 1)) = W else ls ++ (if cur = [] then [] else [cur]) = W) := by
        intro h
        show (if _ then _ else _)
        rcases h with h | ⟨h, hb⟩
        · rw [if_neg (by omega)]
          rw [List.drop_eq_nil_of_le (by omega), wordsGo_end] at hg2
          exact hg2
        · rw [if_pos (by omega)]
          rw [List.drop_eq_getElem_cons h, wordsGo_cons, if_pos hb] at hg2
          rw [← hg2]
          split <;> simp
      by_cases hend : k = l.length ∨ ∃ h : k < l.length, blankC l[k] = true
      · have HK := key hend
        have hcase : (k : Int) = l.length ∨ (((k : Int) == l.length) = false ∧ ∃ h : k < (bs l).size, (((bs l)[k].toNat : Int) == 32) = true ∨ (((bs l)[k].toNat : Int) == 32) = false ∧ (((bs l)[k].toNat : Int) == 9) = true) := by
          rcases hend with h | ⟨h, hb⟩
          · left; omega
          · right
            refine ⟨by rw [beq_eq_false_iff_ne]; omega, by rw [bs_size]; exact h, ?_⟩
            have e : (bs l)[k]'(by rw [bs_size]; exact h) = l[k] := rfl
            rw [e]
            unfold blankC at hb
            by_cases h32 : l[k] = 32
            · left; rw [h32]; rfl
            · right
              have h9 : l[k] = 9 := by simpa [h32] using hb
              rw [h9]; exact ⟨rfl, rfl⟩
        clear key hend hg hg2
        by_cases hcur : cur = []
        · subst hcur
          simp only [if_true, List.append_nil] at HK
          rcases hcase with hkk | ⟨hn, h, h32 | ⟨h32, h9⟩⟩
          all_goals
            have hlt' : (0 : Int) ≤ k := by omega
            go_wp2
            go_roundw
            case rel => exact ⟨k + 1, ls, [], by omega, by go_num, hown, hnn, rfl, by simp, by omega, HK, hB⟩
            case measure => simp [intOf]; omega
        · rw [if_neg hcur] at HK
          have hne : (cur == []) = false := by simpa using hcur
          rcases hcase with hkk | ⟨hn, h, h32 | ⟨h32, h9⟩⟩
          all_goals
            go_wp2_with (at_builtin; refine wpList_append_own _ rfl _ _ 49 rfl w.heap.size 9 i0 (.string ⟨#[]⟩) 1 16 Tryz.underlying49 hi hz0 hz1 hz2 rfl (by decide) _ _ _ rfl (World.ownsRow.alloc hown _) ⟨wr.heap.size, 0, none⟩ 1 1 [.string (bs cur)] rfl rfl ?e1 ?e2 ?e3 ?e4 ?e5 ?_)
            case e1 =>
              intro j u hj
              match j, hj with
              | 0, hj => simp at hj; subst hj; simp [Addr.add]
            case e2 => intro u hu; simp at hu; subst hu; rfl
            case e3 => unfold maxLen; omega
            case e4 => omega
            case e5 => simp; omega
            intro v' w2 hown' hgrow hnil
            have R1 : OwnS w2 w.heap.size v' (ls ++ [cur]) := OwnS.step hown'
            have R2 : Below w.heap.size w w2 := (hB.alloc hzr _).grown hgrow (by simp; omega) (fun k e => (World.ownsRow.lt hown k e).1)
            have R3 : v' ≠ .slice none 0 0 := by first | exact hnil | exact fun e => absurd (hnil.1 e).2 (by decide)
            clear hown' hgrow hnil
            go_wp2
            go_roundw
            case rel => exact ⟨k + 1, ls ++ [cur], [], by omega, by go_num, R1, R3, rfl, by simp, by simp; omega, HK, R2⟩
            case measure => simp [intOf]; omega
      · have hlt : k < l.length := by
          rcases Nat.lt_or_ge k l.length with h | h
          · exact h
          · exact absurd (.inl (by omega)) hend
        have hb : blankC l[k] = false := by
          rw [Bool.eq_false_iff]; intro h; exact hend (.inr ⟨hlt, h⟩)
        have hm := run_mid l k (k + 1) (by omega) (by omega)
        rw [show k + 1 - k = 1 by omega, List.drop_eq_getElem_cons hlt, List.take_succ_cons, List.take_zero, show ((k + 1 : Nat) : Int) = (k : Int) + 1 by simp] at hm
        obtain ⟨c, hc⟩ : ∃ c, (bs l)[k]'(by rw [bs_size]; exact hlt) = c := ⟨_, rfl⟩
        have hc' : l[k] = c := hc
        rw [hc'] at hm hb
        have hg3 : Hid (if k + 1 ≤ l.length then ls ++ wordsGo (cur ++ [c]) (l.drop (k + 1)) = W else ls = W) := by
          show (if _ then _ else _)
          rw [if_pos (by omega)]
          rw [List.drop_eq_getElem_cons hlt, wordsGo_cons, hc', if_neg (by simp [hb])] at hg2
          exact hg2
        have h32 : ((c.toNat : Int) == 32) = false := by
          rw [beq_eq_false_iff_ne]; intro e
          have : c = 32 := UInt8.toNat_inj.1 (by rw [show (32 : UInt8).toNat = 32 from rfl]; omega)
          subst this; cases hb
        have h9 : ((c.toNat : Int) == 9) = false := by
          rw [beq_eq_false_iff_ne]; intro e
          have : c = 9 := UInt8.toNat_inj.1 (by rw [show (9 : UInt8).toNat = 9 from rfl]; omega)
          subst this; cases hb
        have hn : ((k : Int) == l.length) = false := by rw [beq_eq_false_iff_ne]; omega
        have hlt' : (k : Int) < l.length := by omega
        have hsz : ¬ 9223372036854775807 < cur.length + 1 := by omega
        clear key hend hg hg2 hc' hb
        go_wp2
        go_roundw
        case rel => exact ⟨k + 1, ls, cur ++ [c], by omega, by go_num, hown, hnn, by rw [bs_append], by simp; omega, by omega, hg3, hB⟩
        case measure => simp [intOf]; omega
    · obtain rfl : k = l.length + 1 := by omega
      have hg2 := hg.out
      rw [if_neg hkl] at hg2
      subst hg2
      have hgt : ¬ (((l.length + 1 : Nat) : Int) ≤ l.length) := by omega
      clear hg
      go_wp2
      go_ret
      exact ⟨_, rfl, hown, hnn, hB⟩

end Go.Proofs.YtcjnpklmfcbofaaGreatDoor
end

/- l[1:] of a row of strings. -/
set_option linter.unusedVariables false
set_option linter.unusedSimpArgs false
section
namespace Go.Proofs.YtcjnpklmfcbofaaGreatDoor
open Go.RowKit Go

theorem elem_strs : Tryz.prog.underlying 49 = some (.slice (Tryz.prog.elem 49)) := by kernel_rfl
theorem run_tail (a : Option Addr) (n c : Nat) (hn : 1 ≤ n) (W : World) : (Instr.slice 49 (.slice a n c) (some (.int .i64 1)) none none).run Tryz.prog W = .ok (.slice (if c = 1 then a else a.map (·.add 1)) (n - 1) (c - 1)) W := by
  rw [run_slice_l W 49 a n c elem_strs .i64 1 (by decide) (by exact_mod_cast hn)]
  have e1 : Tryz.prog.elem 49 = 9 := by kernel_rfl
  rw [e1, Tryz.sizeOf9]
  rfl

theorem SV.tail {w : World} {v : Value} {x : List UInt8} {vs : List (List UInt8)} (h : SV w v (x :: vs)) : ∃ b o1 c1, (∀ W, (Instr.slice 49 v (some (.int .i64 1)) none none).run Tryz.prog W = .ok (.slice (some ⟨b, o1, none⟩) vs.length c1) W) ∧ SV w (.slice (some ⟨b, o1, none⟩) vs.length c1) vs := by
  obtain ⟨b, o, c, rfl, hc, hb, hcell⟩ := h
  have hc' : vs.length + 1 ≤ c := hc
  by_cases h1 : c = 1
  · refine ⟨b, o, 0, fun W => ?_, b, o, 0, rfl, by omega, hb, fun j hj => by omega⟩
    rw [run_tail _ _ _ (by simp), if_pos h1, h1]
    have : vs.length = 0 := by omega
    simp [this]
  · refine ⟨b, o + 1, c - 1, fun W => ?_, b, o + 1, c - 1, rfl, by omega, hb, fun j hj => ?_⟩
    · rw [run_tail _ _ _ (by simp), if_neg h1]
      simp [Addr.add]
    · have := hcell (j + 1) (by simp; omega)
      rw [show o + 1 + j = o + (j + 1) by omega, this]
      simp [List.getD]

end Go.Proofs.YtcjnpklmfcbofaaGreatDoor
end

/- The reference's ParseInternal. Printed by gen38.py. -/
set_option linter.unusedVariables false
set_option linter.unusedSimpArgs false
section
namespace Go.Proofs.YtcjnpklmfcbofaaGreatDoor
open Go.RowKit

theorem zoneR_bd (s : List UInt8) (z : Int) (h : zoneR s = some z) : -86400 ≤ z ∧ z ≤ 86400 := by
  have h5 : s.length = 5 := by
    unfold zoneR at h
    split at h
    · cases h
    · rename_i hn
      rcases hA : likeL s [43, 48, 48, 48, 48] with _ | _
      · rcases hB : likeL s [45, 48, 48, 48, 48] with _ | _
        · exact absurd ⟨hA, hB⟩ hn
        · have := likeL_len2 hB; simpa using this
      · have := likeL_len2 hA; simpa using this
  have e := zoneR_eq s h5
  rw [h] at e
  have := zone_bd (show zone s = some (z, []) from e)
  exact ⟨this.1, this.2.1⟩

theorem day_digits (D : List UInt8) (c0 : UInt8) (hl : D.length = 2) (h0 : D.headD 0 = c0) (h : (likeL D [32, 48] || (likeL D [48, 48] && c0 != 48)) = true) : (c0 = 32 → ∀ c ∈ D.drop 1, isD c = true) ∧ (c0 ≠ 32 → ∀ c ∈ D, isD c = true) := by
  match D, hl with
  | [d0, d1], _ =>
    obtain rfl : d0 = c0 := h0
    rw [like2 _ _ _ (by decide), like22, Bool.or_eq_true, Bool.and_eq_true, Bool.and_eq_true, Bool.and_eq_true, beq_iff_eq] at h
    rcases h with h | ⟨h, h'⟩
    · exact ⟨fun _ c hc => by obtain rfl : c = d1 := by simpa using hc
                              exact h.2, fun h9 => absurd h.1 h9⟩
    · refine ⟨fun h9 => ?_, fun _ c hc => ?_⟩
      · rw [h9] at h; exact absurd h.1 (by decide)
      · rcases List.mem_cons.1 hc with rfl | hc
        · exact h.1
        · obtain rfl : c = d1 := by simpa using hc
          exact h.2

end Go.Proofs.YtcjnpklmfcbofaaGreatDoor
end

/- The reference's value and place leave the world as it was. -/
set_option linter.unusedVariables false
set_option linter.unusedSimpArgs false
section
namespace Go.Proofs.YtcjnpklmfcbofaaGreatDoor
open Go.RowKit

set_option maxRecDepth 100000 in
set_option maxHeartbeats 1000000 in
theorem value_same (s : List UInt8) (w : World) (hs : s.length ≤ 8) (hd : ∀ c ∈ s, isD c = true) : Calls Tryz.prog 67 #[.string (bs s)] w fun e w' => e = .returned (.int .i64 (valueL s)) ∧ w' = w := by
  obtain ⟨R, hR⟩ : ∃ R, valueL s = R := ⟨_, rfl⟩
  rw [hR]
  have HR := Lib.hid hR
  have HD := Lib.hid hd
  clear hR hd
  go_enter Tryz.func67, Tryz.ntmps67
  go_wp2
  go_loopw [3, 4] (fun v c wr => ∃ (k : Nat) (n : Int), k ≤ s.length ∧ c = .int .i64 k ∧ v = .int .i64 n ∧ 0 ≤ n ∧ n + 1 ≤ 10 ^ k ∧ Hid ((s.drop k).foldl (fun n c => 10 * n + (((c - 48 : UInt8).toNat : Nat) : Int)) n = R) ∧ wr = w) (fun _ c _ => s.length - (intOf c).toNat)
  case atStart => exact ⟨0, 0, Nat.zero_le _, rfl, rfl, Int.le_refl _, by decide, HR.out, rfl⟩
  case round =>
    obtain ⟨k, n, hk, rfl, rfl, n0, n1, hr, hB⟩ := hrel
    subst hB
    by_cases hlt : k < s.length
    · obtain ⟨c, hc⟩ : ∃ c, (bs s)[k]'(by rw [bs_size]; exact hlt) = c := ⟨_, rfl⟩
      have hc' : s[k] = c := hc
      have hdc := HD.out c (by rw [← hc']; exact List.getElem_mem _)
      have hr2 := hr.out
      rw [List.drop_eq_getElem_cons hlt, hc', List.foldl_cons, isD_sub hdc] at hr2
      have HR2 := Lib.hid hr2
      obtain ⟨h1, h2⟩ := dig_bd hdc
      have hlt' : (k : Int) < s.length := by omega
      have hp : (10 : Int) ^ (k + 1) = 10 ^ k * 10 := Int.pow_succ ..
      have hp8 : (10 : Int) ^ k ≤ 100000000 := by
        have h := Nat.pow_le_pow_right (n := 10) (by decide) (show k ≤ 8 by omega)
        have : ((10 ^ k : Nat) : Int) ≤ ((10 ^ 8 : Nat) : Int) := by exact_mod_cast h
        simpa using this
      have n9 : n ≤ 100000000 := by omega
      have hz1 : 10 * n + 1 + ((c.toNat : Int) - 48) ≤ 10 ^ (k + 1) := by omega
      clear hr hr2 hdc hp hp8 hc'
      go_wp2
      go_roundw
      case rel => exact ⟨k + 1, 10 * n + ((c.toNat : Int) - 48), by omega, by go_num, by go_num, by omega, by omega, HR2.out, by first | rfl | trivial⟩
      case measure => simp [intOf]; omega
    · obtain rfl : k = s.length := by omega
      have hr2 := hr.out
      rw [List.drop_length, List.foldl_nil] at hr2
      subst hr2
      clear hr
      go_wp2
      go_ret
      exact ⟨rfl, rfl⟩

set_option maxRecDepth 100000 in
set_option maxHeartbeats 1000000 in
theorem place_same (m : Nat) (s t : List UInt8) (w : World) (hm : m ≤ 12) (ht : t.length = 3 * m) (hs : s.length ≤ 1099511627776) : Calls Tryz.prog 64 #[.string (bs s), .string (bs t)] w fun e w' => e = .returned (.int .i64 (plL m 0 t s)) ∧ w' = w := by
  obtain ⟨R, hR⟩ : ∃ R, plL m 0 t s = R := ⟨_, rfl⟩
  have HR := Lib.hid hR
  rw [hR]
  clear hR
  have hts : (bs t).size = 3 * m := by rw [bs_size, ht]
  go_enter Tryz.func64, Tryz.ntmps64
  go_wp2
  go_loopg [5] m (fun kq i wr => ∃ j : Nat, j ≤ m ∧ kq = m - j ∧ i = .int .i64 (3 * (j : Int)) ∧ wr = w ∧ Hid (plL (m - j) j (t.drop (3 * j)) s = R))
  case atStart => exact ⟨0, Nat.zero_le _, rfl, rfl, rfl, HR⟩
  case round =>
    obtain ⟨j, hj, hkq, rfl, hB, hnr⟩ := hrel
    subst hB
    by_cases hjm : j < m
    · have hsl : ∀ w : World, (Instr.slice 9 (.string (bs t)) (some (.int .i64 (3 * (j : Int)))) (some (.int .i64 (3 * (j : Int) + 3))) none).run Tryz.prog w = .ok (.string (bs ((t.drop (3 * j)).take 3))) w := fun w => by
        have := run_mid t (3 * j) (3 * j + 3) (by omega) (by omega) w
        rw [show 3 * j + 3 - 3 * j = 3 by omega] at this
        simpa using this
      obtain ⟨q, hq⟩ : ∃ q, m - j = q + 1 := ⟨m - j - 1, by omega⟩
      have hn2 := hnr.out
      rw [hq, plL] at hn2
      obtain ⟨T, hT⟩ : ∃ T, (t.drop (3 * j)).take 3 = T := ⟨_, rfl⟩
      rw [hT] at hn2 hsl
      have hlj : 3 * (j : Int) + 3 ≤ 3 * (m : Int) := by omega
      by_cases hp : s = T
      · rw [if_pos hp] at hn2
        subst hn2 hp
        have hdv : (3 * (j : Int)).tdiv 3 = j := by rw [Int.tdiv_eq_ediv_of_nonneg (by omega)]; omega
        clear hnr
        go_wp2
        go_ret
        exact ⟨by first | rfl | (apply ret_int; omega) | (rw [hdv]), rfl⟩
      · rw [if_neg hp] at hn2
        have hne : (s == T) = false := by simpa using hp
        have HN := Lib.hid hn2
        clear hnr hn2 hp
        go_wp2
        go_roundg (m - (j + 1))
        case measure => omega
        case rel => exact ⟨j + 1, by omega, rfl, by simp; omega, rfl, by rw [show m - (j + 1) = q by omega, show 3 * (j + 1) = 3 * j + 3 by omega, ← List.drop_drop]; exact HN⟩
    · obtain rfl : j = m := by omega
      have hn2 := hnr.out
      rw [Nat.sub_self] at hn2
      have hn3 : R = -1 := hn2.symm
      subst hn3
      clear hnr hn2
      go_wp2
      go_ret
      exact ⟨rfl, rfl⟩

end Go.Proofs.YtcjnpklmfcbofaaGreatDoor
end
