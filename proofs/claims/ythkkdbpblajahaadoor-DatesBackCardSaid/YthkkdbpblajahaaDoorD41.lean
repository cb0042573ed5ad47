/- Each moment's texts read back (plain). -/
import Derived.Test.YthkkdbpblajahaaDoorD10
import Derived.Test.YthkkdbpblajahaaDoorD40
import Derived.Test.YthkkdbpblajahaaDoorD36
set_option linter.unusedVariables false
set_option linter.unusedSimpArgs false
namespace Go.Proofs.YthkkdbpblajahaaDoor

/-! ### The texts read back -/
theorem dig2 : ∀ n : Nat, n < 100 → (twoL (n : Int) [48]).length = 2 ∧ (twoL (n : Int) [48]).all isD = true ∧ valueL (twoL (n : Int) [48]) = n := by decide +kernel
theorem dig2s : ∀ n : Nat, n < 100 → 1 ≤ n → (twoL (n : Int) [32]).length = 2 ∧ (likeL (twoL (n : Int) [32]) [32, 48] || (likeL (twoL (n : Int) [32]) [48, 48] && (twoL (n : Int) [32]).headD 0 != 48)) = true ∧ valueL (if (twoL (n : Int) [32]).headD 0 = 32 then ((twoL (n : Int) [32])).drop 1 else twoL (n : Int) [32]) = n := by decide +kernel
theorem dig4 : ∀ n : Nat, n < 130 → (Lib.decDigits (1970 + n)).length = 4 ∧ (Lib.decDigits (1970 + n)).all isD = true ∧ valueL (Lib.decDigits (1970 + n)) = ((1970 + n : Nat) : Int) := by decide +kernel
theorem dig12 : ∀ n : Nat, n < 100 → ((Lib.decDigits n).length = 1 ∨ (Lib.decDigits n).length = 2) ∧ (Lib.decDigits n).all isD = true ∧ valueL (Lib.decDigits n) = n := by decide +kernel
theorem mon3 : ∀ n : Nat, n < 12 → (monthL ((n : Int) + 1)).length = 3 ∧ plL 12 0 monthsL (monthL ((n : Int) + 1)) = n ∧ (monthL ((n : Int) + 1)).all (fun c => !blankC c) = true := by decide +kernel
theorem wk3 : ∀ n : Nat, n < 7 → (weekL (n : Int)).length = 3 ∧ 0 ≤ plL 7 0 daysL (weekL (n : Int)) ∧ (weekL (n : Int)).all (fun c => !blankC c) = true := by decide +kernel

theorem like_all : ∀ (s : List UInt8), s.all isD = true → likeL s (List.replicate s.length 48) = true
  | [], _ => rfl
  | c :: s, h => by
    rw [List.all_cons, Bool.and_eq_true] at h
    show (likeB c 48 && likeL s (List.replicate s.length 48)) = true
    rw [likeB_dig, h.1, like_all s h.2]; rfl
theorem two_parts {n : Int} (h0 : 0 ≤ n) (h1 : n < 100) : ∃ a b, twoL n [48] = [a, b] ∧ likeL [a, b] [48, 48] = true ∧ valueL [a, b] = n := by
  obtain ⟨k, rfl⟩ : ∃ k : Nat, n = k := ⟨n.toNat, by omega⟩
  obtain ⟨h2, h3, h4⟩ := dig2 k (by omega)
  match ht : twoL (k : Int) [48], h2 with
  | [a, b], _ =>
    rw [ht] at h3 h4
    exact ⟨a, b, rfl, like_all [a, b] h3, h4⟩
theorem twos_parts {n : Int} (h0 : 1 ≤ n) (h1 : n < 100) : ∃ a b, twoL n [32] = [a, b] ∧ (likeL [a, b] [32, 48] || (likeL [a, b] [48, 48] && a != 48)) = true ∧ valueL (if a = 32 then [b] else [a, b]) = n := by
  obtain ⟨k, rfl⟩ : ∃ k : Nat, n = k := ⟨n.toNat, by omega⟩
  obtain ⟨h2, h3, h4⟩ := dig2s k (by omega) (by omega)
  match ht : twoL (k : Int) [32], h2 with
  | [a, b], _ =>
    rw [ht] at h3 h4
    exact ⟨a, b, rfl, h3, h4⟩
theorem year_parts {n : Int} (h0 : 1970 ≤ n) (h1 : n ≤ 2099) : ∃ a b c d, Lib.decDigits n.toNat = [a, b, c, d] ∧ likeL [a, b, c, d] [48, 48, 48, 48] = true ∧ valueL [a, b, c, d] = n := by
  obtain ⟨k, rfl⟩ : ∃ k : Nat, n = ((1970 + k : Nat) : Int) := ⟨(n - 1970).toNat, by omega⟩
  obtain ⟨h2, h3, h4⟩ := dig4 k (by omega)
  rw [show ((1970 + k : Nat) : Int).toNat = 1970 + k from rfl]
  match ht : Lib.decDigits (1970 + k), h2 with
  | [a, b, c, d], _ =>
    rw [ht] at h3 h4
    exact ⟨a, b, c, d, rfl, like_all [a, b, c, d] h3, h4⟩
theorem month_parts {m : Int} (h0 : 1 ≤ m) (h1 : m ≤ 12) : ∃ a b c, monthL m = [a, b, c] ∧ plL 12 0 monthsL [a, b, c] = m - 1 ∧ (blankC a = false ∧ blankC b = false ∧ blankC c = false) := by
  obtain ⟨k, rfl⟩ : ∃ k : Nat, m = (k : Int) + 1 := ⟨(m - 1).toNat, by omega⟩
  obtain ⟨h2, h3, h4⟩ := mon3 k (by omega)
  match ht : monthL ((k : Int) + 1), h2 with
  | [a, b, c], _ =>
    rw [ht] at h3 h4
    simp at h4
    exact ⟨a, b, c, rfl, by rw [h3]; omega, h4⟩
theorem week_parts {m : Int} (h0 : 0 ≤ m) (h1 : m ≤ 6) : ∃ a b c, weekL m = [a, b, c] ∧ 0 ≤ plL 7 0 daysL [a, b, c] ∧ (blankC a = false ∧ blankC b = false ∧ blankC c = false) := by
  obtain ⟨k, rfl⟩ : ∃ k : Nat, m = (k : Int) := ⟨m.toNat, by omega⟩
  obtain ⟨h2, h3, h4⟩ := wk3 k (by omega)
  match ht : weekL (k : Int), h2 with
  | [a, b, c], _ =>
    rw [ht] at h3 h4
    simp at h4
    exact ⟨a, b, c, rfl, h3, h4⟩
theorem zone_zero : zoneR [43, 48, 48, 48, 48] = some 0 := by rfl

theorem inter_back {y m d h mi s : Int} (y0 : 1970 ≤ y) (y1 : y ≤ 2099) (m0 : 1 ≤ m) (m1 : m ≤ 12) (d0 : 1 ≤ d) (d1 : d ≤ 31) (h0 : 0 ≤ h) (h1 : h ≤ 23) (i0 : 0 ≤ mi) (i1 : mi ≤ 59) (s0 : 0 ≤ s) (s1 : s ≤ 59) :
    refInternalC (interL y m d h mi s) = some (((y, m, d, h, mi, s), 0) : RuleD) := by
  obtain ⟨a0, a1, ed, ld, vd⟩ := twos_parts d0 (by omega : d < 100)
  obtain ⟨b0, b1, b2, em, pm, _⟩ := month_parts m0 m1
  obtain ⟨c0, c1, c2, c3, ey, ly, vy⟩ := year_parts y0 y1
  obtain ⟨h2, h3, eh, lh, vh⟩ := two_parts h0 (by omega : h < 100)
  obtain ⟨i2, i3, ei, li, vi⟩ := two_parts i0 (by omega : mi < 100)
  obtain ⟨s2, s3, es, ls, vs⟩ := two_parts s0 (by omega : s < 100)
  unfold interL clockL
  rw [ed, em, ey, eh, ei, es]
  unfold refInternalC
  have hT : likeL [45, c0, c1, c2, c3, 32, h2, h3, 58, i2, i3, 58, s2, s3, 32] patI = true := by
    rw [likeI]
    simp only [List.take_succ_cons, List.take_zero, List.drop_succ_cons, List.drop_zero]
    rw [ly, lh, li, ls]
    rfl
  simp only [List.cons_append, List.nil_append, List.length_cons, List.length_nil, List.take_succ_cons, List.take_zero, List.drop_succ_cons, List.drop_zero, List.headD_cons, List.getD_cons_succ, List.getD_cons_zero, Nat.reduceAdd, ne_eq, not_true_eq_false, if_false]
  rw [zone_zero, pm, hT]
  simp only [Option.bind_some]
  rw [if_pos (by refine ⟨ld, by omega, ?_, ?_⟩ <;> first | rfl | trivial), vy, vh, vi, vs, vd, show m - 1 + 1 = m by omega]
  rfl

theorem day_back {y m d : Int} (y0 : 1970 ≤ y) (y1 : y ≤ 2099) (m0 : 1 ≤ m) (m1 : m ≤ 12) (d0 : 1 ≤ d) (d1 : d ≤ 31) :
    refDayC (dayL y m d) = some (((y, m, d, 0, 0, 0), 0) : RuleD) := by
  obtain ⟨b0, b1, b2, em, pm, _⟩ := month_parts m0 m1
  obtain ⟨c0, c1, c2, c3, ey, ly, vy⟩ := year_parts y0 y1
  obtain ⟨k, rfl⟩ : ∃ k : Nat, d = (k : Int) := ⟨d.toNat, by omega⟩
  obtain ⟨hl, hd, hv⟩ := dig12 k (by omega)
  unfold dayL
  rw [em, ey, show ((k : Int)).toNat = k from rfl]
  have hY : likeL [45, c0, c1, c2, c3] [45, 48, 48, 48, 48] = true := by
    rw [like5]
    simp only [List.take_succ_cons, List.take_zero, List.drop_succ_cons, List.drop_zero]
    rw [ly]; rfl
  rcases hl with hl | hl
  · match ht : Lib.decDigits k, hl with
    | [e0], _ =>
      rw [ht] at hd hv
      have h1 := like_all [e0] hd
      have h1' : likeL [e0] [48] = true := h1
      unfold refDayC
      simp only [List.cons_append, List.nil_append, List.length_cons, List.length_nil, Nat.reduceAdd, Nat.reduceEqDiff, if_false, List.take_succ_cons, List.take_zero, List.drop_succ_cons, List.drop_zero, List.getD_cons_succ, List.getD_cons_zero, ne_eq, not_true_eq_false, false_or]
      rw [if_neg (by rw [h1', pm, hY]; rintro (h | h | h); cases h; omega; cases h), pm, vy, hv, show m - 1 + 1 = m by omega]
      rfl
  · match ht : Lib.decDigits k, hl with
    | [e0, e1], _ =>
      rw [ht] at hd hv
      have h1 := like_all [e0, e1] hd
      have h1' : likeL [e0, e1] [48, 48] = true := h1
      unfold refDayC
      simp only [List.cons_append, List.nil_append, List.length_cons, List.length_nil, Nat.reduceAdd, if_true, List.take_succ_cons, List.take_zero, List.drop_succ_cons, List.drop_zero, List.getD_cons_succ, List.getD_cons_zero, ne_eq, not_true_eq_false, false_or]
      rw [if_neg (by rw [h1', pm, hY]; rintro (h | h | h); cases h; omega; cases h), pm, vy, hv, show m - 1 + 1 = m by omega]
      rfl

theorem isD_blank {c : UInt8} (h : isD c = true) : blankC c = false := by
  have h2 := isD_ne h
  unfold blankC
  rw [Bool.or_eq_false_iff, beq_eq_false_iff_ne, beq_eq_false_iff_ne]
  constructor
  · rintro rfl; exact absurd h2 (by decide)
  · rintro rfl; exact absurd h2 (by decide)
theorem like_digs {s : List UInt8} {n : Nat} (h : likeL s (List.replicate n 48) = true) : ∀ c ∈ s, blankC c = false := by
  induction n generalizing s with
  | zero => cases s with
    | nil => simp
    | cons c s => cases h
  | succ n ih => cases s with
    | nil => cases h
    | cons c s =>
      have h' : (likeB c 48 && likeL s (List.replicate n 48)) = true := h
      rw [Bool.and_eq_true, likeB_dig] at h'
      intro d hd
      rcases List.mem_cons.1 hd with rfl | hd
      · exact isD_blank h'.1
      · exact ih h'.2 d hd
theorem words_word (w r : List UInt8) (hw : ∀ c ∈ w, blankC c = false) (h0 : w ≠ []) : wordsGo [] (w ++ 32 :: r) = w :: wordsGo [] r := by
  rw [wordsGo_run w [] _ hw, List.nil_append]
  show (if blankC 32 = true then _ else _) = _
  rw [if_pos (by rfl), if_neg h0]
theorem words_last (w : List UInt8) (hw : ∀ c ∈ w, blankC c = false) (h0 : w ≠ []) : wordsGo [] w = [w] := by
  have := wordsGo_run w [] [] hw
  rw [List.append_nil, List.nil_append] at this
  rw [this, wordsGo_nil h0]

theorem mail_back {y m d h mi s wk : Int} (y0 : 1970 ≤ y) (y1 : y ≤ 2099) (m0 : 1 ≤ m) (m1 : m ≤ 12) (d0 : 1 ≤ d) (d1 : d ≤ 31) (h0 : 0 ≤ h) (h1 : h ≤ 23) (i0 : 0 ≤ mi) (i1 : mi ≤ 59) (s0 : 0 ≤ s) (s1 : s ≤ 59) (k0 : 0 ≤ wk) (k1 : wk ≤ 6) :
    refMailC (wordsGo [] (mailL y m d h mi s wk)) = some (((y, m, d, h, mi, s), 0) : RuleD) := by
  obtain ⟨a0, a1, ed, ld, vd⟩ := two_parts (show 0 ≤ d by omega) (by omega : d < 100)
  obtain ⟨b0, b1, b2, em, pm, nb0, nb1, nb2⟩ := month_parts m0 m1
  obtain ⟨c0, c1, c2, c3, ey, ly, vy⟩ := year_parts y0 y1
  obtain ⟨h2, h3, eh, lh, vh⟩ := two_parts h0 (by omega : h < 100)
  obtain ⟨i2, i3, ei, li, vi⟩ := two_parts i0 (by omega : mi < 100)
  obtain ⟨s2, s3, es, ls, vs⟩ := two_parts s0 (by omega : s < 100)
  obtain ⟨w0, w1, w2, ew, pw, nw0, nw1, nw2⟩ := week_parts k0 k1
  have hb : mailL y m d h mi s wk = [w0, w1, w2, 44] ++ 32 :: ([a0, a1] ++ 32 :: ([b0, b1, b2] ++ 32 :: ([c0, c1, c2, c3] ++ 32 :: ([h2, h3, 58, i2, i3, 58, s2, s3] ++ 32 :: [43, 48, 48, 48, 48])))) := by
    unfold mailL clockL
    rw [ed, em, ey, eh, ei, es, ew]
    rfl
  have gd := like_digs (n := 2) ld
  have gy := like_digs (n := 4) ly
  have gh := like_digs (n := 2) lh
  have gi := like_digs (n := 2) li
  have gs := like_digs (n := 2) ls
  have g1 : ∀ c ∈ [w0, w1, w2, (44 : UInt8)], blankC c = false := by
    intro c hc; simp at hc; rcases hc with rfl | rfl | rfl | rfl
    · exact nw0
    · exact nw1
    · exact nw2
    · rfl
  have g2 : ∀ c ∈ [b0, b1, b2], blankC c = false := by
    intro c hc; simp at hc; rcases hc with rfl | rfl | rfl
    · exact nb0
    · exact nb1
    · exact nb2
  have g3 : ∀ c ∈ [h2, h3, (58 : UInt8), i2, i3, 58, s2, s3], blankC c = false := by
    intro c hc; simp at hc; rcases hc with rfl | rfl | rfl | rfl | rfl | rfl | rfl | rfl
    · exact gh _ (by simp)
    · exact gh _ (by simp)
    · rfl
    · exact gi _ (by simp)
    · exact gi _ (by simp)
    · rfl
    · exact gs _ (by simp)
    · exact gs _ (by simp)
  rw [hb, words_word _ _ g1 (by simp), words_word _ _ gd (by simp), words_word _ _ g2 (by simp), words_word _ _ gy (by simp), words_word _ _ g3 (by simp), words_last _ (by decide) (by simp), refMailC_cons]
  simp only [List.take_succ_cons, List.take_zero, List.drop_succ_cons, List.drop_zero]
  rw [if_pos pw, if_neg (by simp)]
  unfold commaC
  simp only [List.headD_cons, List.drop_succ_cons, List.drop_zero, if_true]
  rw [refTailC_5]
  have hp8 : likeL [h2, h3, 58, i2, i3, 58, s2, s3] pat8 = true := by
    rw [show pat8 = [48, 48] ++ ([58] ++ ([48, 48] ++ ([58] ++ [48, 48]))) from rfl, likeL_append, likeL_append, likeL_append, likeL_append]
    simp only [List.length_cons, List.length_nil, List.take_succ_cons, List.take_zero, List.drop_succ_cons, List.drop_zero, Nat.zero_add]
    rw [lh, li, ls]; rfl
  rw [if_pos ⟨.inr ld, by rw [pm]; omega, ly, .inr hp8⟩, zone_zero]
  simp only [Option.bind_some, List.take_succ_cons, List.take_zero, List.drop_succ_cons, List.drop_zero, List.length_cons, List.length_nil, Nat.reduceAdd, if_true]
  rw [pm, vy, vd, vh, vi, vs, show m - 1 + 1 = m by omega]

theorem mom_of_civ7 {t y m d h mi s wk : Int} (h0 : 0 ≤ t) (c : Cal.civ7 t y m d h mi s wk) : Cal.right y m d h mi s ∧ Cal.mom y m d h mi s = t ∧ Cal.right y m d 0 0 0 ∧ Cal.mom y m d 0 0 0 = t - t % 86400 := by
  obtain ⟨⟨y0, y1, m0, m1, d0, d1, hd⟩, e1, e2, e3, e4⟩ := c
  unfold Cal.right Cal.mom
  subst e1 e2 e3
  rw [hd]
  refine ⟨⟨⟨y0, y1⟩, ⟨m0, m1⟩, ⟨d0, d1⟩, ?_, ?_, ?_⟩, ?_, ⟨⟨y0, y1⟩, ⟨m0, m1⟩, ⟨d0, d1⟩, by omega, by omega, by omega⟩, ?_⟩ <;> omega

/-- a text that reads as a right date, within the range -/
theorem read_good {R : Option (RuleD × List UInt8)} {y m d h mi s : Int} (hf : fullR R = some (((y, m, d, h, mi, s), 0) : RuleD)) (hr : Cal.right y m d h mi s) (h0 : 0 ≤ Cal.mom y m d h mi s) (h1 : Cal.mom y m d h mi s ≤ 4102444799) : readV R = .good (Cal.mom y m d h mi s) := by
  have hp : parsedI (fullR R) = (Cal.mom y m d h mi s, 0) := by
    rw [hf]
    show madeI y m d h mi s 0 = _
    unfold madeI
    rw [if_neg (fun h => h hr), Int.sub_zero, if_pos ⟨h0, h1⟩]
  rcases read_same R with ⟨t, e1, e2⟩ | ⟨_, e2⟩ | ⟨_, e2⟩
  · rw [e1]
    rw [hp] at e2
    rw [(Prod.mk.inj e2).1]
  · rw [hp] at e2
    exact absurd (Prod.mk.inj e2).2 (by decide)
  · rw [hp] at e2
    exact absurd (Prod.mk.inj e2).2 (by decide)

end Go.Proofs.YthkkdbpblajahaaDoor
