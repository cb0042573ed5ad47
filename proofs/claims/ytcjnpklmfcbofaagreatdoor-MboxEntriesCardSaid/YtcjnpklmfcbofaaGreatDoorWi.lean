/- Texts of one walk, merged: XDw XD40 XD33 XD34 XD7 XD35 XD36 XD41. -/
import Derived.Test.YtcjnpklmfcbofaaGreatDoorWh
import Derived.Lib.FieldsP
import Derived.Lib.DecodeN
import Derived.LoopTactic

/- strings.FieldsFunc at blanks and tabs: the words (plain). -/
set_option linter.unusedVariables false
set_option linter.unusedSimpArgs false
section
set_option linter.unusedVariables false
set_option linter.unusedSimpArgs false
namespace Go.Proofs.YtcjnpklmfcbofaaGreatDoor

/-- a blank or a tab -/
def blankR (r : Nat) : Bool := r == 32 || r == 9
def blankC (c : UInt8) : Bool := c == 32 || c == 9
/-- words: a text cut at blanks and tabs -/
def wordsGo : List UInt8 → List UInt8 → List (List UInt8)
  | cur, [] => if cur = [] then [] else [cur]
  | cur, c :: l => if blankC c = true then (if cur = [] then wordsGo [] l else cur :: wordsGo [] l) else wordsGo (cur ++ [c]) l

theorem wordsGo_nil {cur : List UInt8} (h : cur ≠ []) : wordsGo cur [] = [cur] := by
  unfold wordsGo
  rw [if_neg h]
theorem wordsGo_run : ∀ (u cur r : List UInt8), (∀ c ∈ u, blankC c = false) → wordsGo cur (u ++ r) = wordsGo (cur ++ u) r
  | [], cur, r, _ => by simp
  | c :: u, cur, r, h => by
    have hc := h c List.mem_cons_self
    show (if blankC c = true then _ else wordsGo (cur ++ [c]) (u ++ r)) = _
    rw [if_neg (by simp [hc]), wordsGo_run u _ r (fun d hd => h d (List.mem_cons_of_mem _ hd))]
    simp
theorem wordsGo_good : ∀ (l cur : List UInt8), (∀ c ∈ cur, blankC c = false) → ∀ w ∈ wordsGo cur l, w ≠ [] ∧ ∀ c ∈ w, blankC c = false
  | [], cur, h, w, hw => by
    unfold wordsGo at hw
    split at hw
    · cases hw
    · rename_i hne
      obtain rfl : w = cur := by simpa using hw
      exact ⟨hne, h⟩
  | c :: l, cur, h, w, hw => by
    unfold wordsGo at hw
    by_cases hc : blankC c = true
    · rw [if_pos hc] at hw
      split at hw
      · exact wordsGo_good l [] (by simp) w hw
      · rename_i hne
        rcases List.mem_cons.1 hw with rfl | hw
        · exact ⟨hne, h⟩
        · exact wordsGo_good l [] (by simp) w hw
    · rw [if_neg hc] at hw
      refine wordsGo_good l (cur ++ [c]) ?_ w hw
      intro d hd
      rcases List.mem_append.1 hd with hd | hd
      · exact h d hd
      · obtain rfl : d = c := by simpa using hd
        simpa using hc

theorem decodeN_blank (n b0 b1 b2 b3 : Nat) (hn : 0 < n) :
    (blankR (Go.Lib.decodeN n b0 b1 b2 b3).1 = true → (Go.Lib.decodeN n b0 b1 b2 b3).2 = 1 ∧ (b0 = 32 ∨ b0 = 9)) ∧
    (blankR (Go.Lib.decodeN n b0 b1 b2 b3).1 = false → ¬ (b0 = 32 ∨ b0 = 9) ∧ 1 ≤ (Go.Lib.decodeN n b0 b1 b2 b3).2 ∧ (Go.Lib.decodeN n b0 b1 b2 b3).2 ≤ n ∧ (Go.Lib.decodeN n b0 b1 b2 b3).2 ≤ 4 ∧
      (2 ≤ (Go.Lib.decodeN n b0 b1 b2 b3).2 → 128 ≤ b1) ∧ (3 ≤ (Go.Lib.decodeN n b0 b1 b2 b3).2 → 128 ≤ b2) ∧ (4 ≤ (Go.Lib.decodeN n b0 b1 b2 b3).2 → 128 ≤ b3)) := by
  unfold blankR
  simp only [Bool.or_eq_true, beq_iff_eq, Bool.or_eq_false_iff, beq_eq_false_iff_ne]
  obtain ⟨D, hD⟩ : ∃ D, Go.Lib.decodeN n b0 b1 b2 b3 = D := ⟨_, rfl⟩
  rw [hD]
  have key : (b0 < 128 ∧ D = (b0, 1)) ∨ (128 ≤ b0 ∧ 128 ≤ D.1 ∧ 1 ≤ D.2 ∧ D.2 ≤ 4 ∧ D.2 ≤ n ∧ (2 ≤ D.2 → b1 / 64 = 2) ∧ (3 ≤ D.2 → b2 / 64 = 2) ∧ (4 ≤ D.2 → b3 / 64 = 2)) := by
    subst hD
    unfold Go.Lib.decodeN
    repeat' split
    all_goals first
      | exact .inl ⟨by assumption, rfl⟩
      | (right; simp only; omega)
  rcases key with ⟨h1, rfl⟩ | ⟨h0, h1, h2, h3, h4, h5, h6, h7⟩
  · exact ⟨fun h => ⟨rfl, h⟩, fun h => ⟨fun h' => by rcases h' with h' | h'; exact h.1 h'; exact h.2 h', Nat.le_refl _, hn, show 1 ≤ 4 by decide, fun h' => absurd h' (show ¬ 2 ≤ 1 by decide), fun h' => absurd h' (show ¬ 3 ≤ 1 by decide), fun h' => absurd h' (show ¬ 4 ≤ 1 by decide)⟩⟩
  · refine ⟨fun h => by omega, fun _ => ⟨by omega, h2, h4, h3, fun h => ?_, fun h => ?_, fun h => ?_⟩⟩
    · have := h5 h; omega
    · have := h6 h; omega
    · have := h7 h; omega

theorem get_list (s : ByteArray) (i : Nat) (h : i < s.size) : s.get! i = s.data.toList.getD i 0 := by
  cases s with
  | mk d =>
    have h' : i < d.size := h
    show d[i]! = d.toList.getD i 0
    rw [getElem!_pos d i h']
    simp [List.getD, h']

theorem ext_toList (s : ByteArray) (a b : Nat) (_ : b ≤ s.size) : (s.extract a b).data.toList = (s.data.toList.drop a).take (b - a) := by
  simp [List.extract_eq_take_drop]

/-- the word that is open -/
def curW (l : List UInt8) (st : Option Nat) (pos : Nat) : List UInt8 := match st with
  | none => []
  | some a => (l.drop a).take (pos - a)

theorem spans_words (s : ByteArray) (l : List UInt8) (hl : s.data.toList = l) : ∀ (f pos : Nat) (st : Option Nat) (acc : List (Nat × Nat)), l.length ≤ pos + f → pos ≤ l.length → (∀ a, st = some a → a < pos) →
    ((Go.Lib.closeSpans s (Go.Lib.spansFromP blankR s f pos st acc)).map fun x => (s.extract x.1 x.2).data.toList) = (acc.map fun x => (s.extract x.1 x.2).data.toList) ++ wordsGo (curW l st pos) (l.drop pos) := by
  have hsz : s.size = l.length := by rw [← hl]; simp
  have close : ∀ (pos : Nat) (st : Option Nat) (acc : List (Nat × Nat)), pos = l.length → (∀ a, st = some a → a < pos) → ((Go.Lib.closeSpans s (acc, st)).map fun x => (s.extract x.1 x.2).data.toList) = (acc.map fun x => (s.extract x.1 x.2).data.toList) ++ wordsGo (curW l st pos) (l.drop pos) := by
    intro pos st acc hp hst
    rw [List.drop_eq_nil_of_le (by omega)]
    cases st with
    | none => simp [Go.Lib.closeSpans, curW, wordsGo]
    | some a =>
      have ha := hst a rfl
      have hne : curW l (some a) pos ≠ [] := by
        intro e
        have := congrArg List.length e
        simp [curW] at this
        omega
      rw [wordsGo_nil hne]
      simp only [Go.Lib.closeSpans, List.map_append, List.map_cons, List.map_nil]
      rw [ext_toList _ _ _ (Nat.le_refl _), hl, hsz, ← hp]
      rfl
  intro f
  induction f with
  | zero => intro pos st acc h1 h2 hst; exact close pos st acc (by omega) hst
  | succ f ih =>
    intro pos st acc h1 h2 hst
    unfold Go.Lib.spansFromP
    by_cases hp : pos < s.size
    · rw [if_pos hp]
      obtain ⟨hb1, hb2⟩ := decodeN_blank (s.size - pos) (s.get! pos).toNat (s.get! (pos + 1)).toNat (s.get! (pos + 2)).toNat (s.get! (pos + 3)).toNat (by omega)
      rw [← Go.Lib.decode_at] at hb1 hb2
      have hpl : pos < l.length := by omega
      have g0 : s.get! pos = l.getD pos 0 := by rw [get_list s pos hp, hl]
      obtain ⟨c, hc⟩ : ∃ c, l.getD pos 0 = c := ⟨_, rfl⟩
      have hdrop : l.drop pos = c :: l.drop (pos + 1) := by
        rw [List.drop_eq_getElem_cons hpl, ← hc]
        simp [List.getD, hpl]
      rw [g0, hc] at hb1 hb2
      have hbc : blankC c = true ↔ (c.toNat = 32 ∨ c.toNat = 9) := by
        unfold blankC
        simp only [Bool.or_eq_true, beq_iff_eq]
        constructor
        · rintro (rfl | rfl)
          · exact .inl rfl
          · exact .inr rfl
        · rintro (h | h)
          · exact .inl (UInt8.toNat_inj.1 h)
          · exact .inr (UInt8.toNat_inj.1 h)
      rcases hd : blankR (Utf8.decode s pos).1 with _ | _
      · obtain ⟨k0, k1, k2, k3, k4, k5, k6⟩ := hb2 hd
        obtain ⟨n, hn⟩ : ∃ n, (Utf8.decode s pos).2 = n := ⟨_, rfl⟩
        rw [hn] at k1 k2 k3 k4 k5 k6 ⊢
        have hu : ∀ d ∈ (l.drop pos).take n, blankC d = false := by
          intro d hd'
          obtain ⟨j, hj, rfl⟩ := List.mem_iff_getElem.1 hd'
          simp only [List.length_take, List.length_drop] at hj
          have e : ((l.drop pos).take n)[j] = l.getD (pos + j) 0 := by
            simp [List.getD, show pos + j < l.length by omega]
          rw [e, Bool.eq_false_iff]
          intro hb
          have g : ∀ i, s.get! (pos + i) = l.getD (pos + i) 0 ∨ l.length ≤ pos + i := fun i => by
            by_cases h : pos + i < s.size
            · exact .inl (by rw [get_list s _ h, hl])
            · exact .inr (by omega)
          have big : ∀ x : UInt8, 128 ≤ x.toNat → blankC x ≠ true := by
            intro x hx hbx
            unfold blankC at hbx
            simp only [Bool.or_eq_true, beq_iff_eq] at hbx
            rcases hbx with rfl | rfl <;> exact absurd hx (by decide)
          match j, hj with
          | 0, _ => exact k0 (hbc.1 (by rw [← hc]; exact hb))
          | 1, hj => rcases g 1 with g1 | g1; exact big _ (by rw [← g1]; exact k4 (by omega)) hb; omega
          | 2, hj => rcases g 2 with g1 | g1; exact big _ (by rw [← g1]; exact k5 (by omega)) hb; omega
          | 3, hj => rcases g 3 with g1 | g1; exact big _ (by rw [← g1]; exact k6 (by omega)) hb; omega
          | j + 4, hj => omega
        have hsplit : l.drop pos = (l.drop pos).take n ++ l.drop (pos + n) := by
          conv => lhs; rw [← List.take_append_drop n (l.drop pos), List.drop_drop]
        simp only [Bool.false_eq_true, if_false]
        rw [hsplit, wordsGo_run _ _ _ hu]
        cases st with
        | none =>
          simp only []
          rw [ih (pos + n) (some pos) acc (by omega) (by omega) (fun a ha => by obtain rfl := Option.some.inj ha; omega)]
          simp [curW]
        | some a =>
          have ha := hst a rfl
          simp only []
          rw [ih (pos + n) (some a) acc (by omega) (by omega) (fun b hb => by obtain rfl := Option.some.inj hb; omega)]
          simp only [curW]
          congr 2
          rw [show pos + n - a = (pos - a) + n by omega, List.take_add, List.drop_drop, show a + (pos - a) = pos by omega]
      · obtain ⟨k1, k0⟩ := hb1 hd
        rw [k1, hdrop]
        simp only [if_true]
        have hw : ∀ cur, wordsGo cur (c :: l.drop (pos + 1)) = if cur = [] then wordsGo [] (l.drop (pos + 1)) else cur :: wordsGo [] (l.drop (pos + 1)) := by
          intro cur
          show (if blankC c = true then _ else _) = _
          rw [if_pos (hbc.2 k0)]
        rw [hw]
        cases st with
        | none =>
          simp only []
          rw [ih (pos + 1) none acc (by omega) (by omega) (fun a ha => by cases ha)]
          simp [curW]
        | some a =>
          have ha := hst a rfl
          simp only []
          rw [ih (pos + 1) none (acc ++ [(a, pos)]) (by omega) (by omega) (fun a ha => by cases ha)]
          have hne : curW l (some a) pos ≠ [] := by
            intro e
            have := congrArg List.length e
            simp [curW] at this
            omega
          rw [if_neg hne]
          simp only [List.map_append, List.map_cons, List.map_nil]
          rw [ext_toList _ _ _ (by omega), hl, List.append_assoc]
          rfl
    · rw [if_neg hp]
      exact close pos st acc (by omega) hst

/-- strings.FieldsFunc at blanks and tabs: the words -/
theorem fields_words (l : List UInt8) : (Go.Lib.goFieldsP blankR ⟨l.toArray⟩).map (·.data.toList) = wordsGo [] l := by
  have := spans_words ⟨l.toArray⟩ l (by simp) l.length 0 none [] (by omega) (by omega) (fun a h => by cases h)
  unfold Go.Lib.goFieldsP Go.Lib.spansOfP
  rw [List.map_map]
  rw [show (⟨l.toArray⟩ : ByteArray).size = l.length by simp [ByteArray.size]]
  simpa [Function.comp_def, curW] using this

end Go.Proofs.YtcjnpklmfcbofaaGreatDoor
end

/- dates.ParseMail: what it hands back. -/
set_option linter.unusedVariables false
set_option linter.unusedSimpArgs false
section
namespace Go.Proofs.YtcjnpklmfcbofaaGreatDoor
open Go.RowKit Go

theorem joinB_lib : ∀ ws : List (List UInt8), Lib.join ws [32] = joinB ws
  | [] => rfl
  | [w] => by simp [Lib.join, joinB]
  | w :: v :: ws => by
    have h : Lib.join (w :: v :: ws) [32] = w ++ ([32] ++ Lib.join (v :: ws) [32]) := rfl
    rw [h, joinB_lib (v :: ws)]
    rfl
theorem words_len : ∀ (l cur : List UInt8), (joinB (wordsGo cur l)).length ≤ cur.length + l.length
  | [], cur => by
    unfold wordsGo
    split
    · simp [joinB]
    · simp [joinB]
  | c :: l, cur => by
    unfold wordsGo
    by_cases hc : blankC c = true
    · rw [if_pos hc]
      have ih := words_len l []
      split
      · simp at ih ⊢; omega
      · by_cases hn : wordsGo [] l = []
        · rw [hn]; simp [joinB]
        · rw [joinB_cons _ hn]
          simp at ih ⊢
          omega
    · rw [if_neg hc]
      have ih := words_len l (cur ++ [c])
      simp at ih ⊢
      omega
theorem words_count : ∀ (l cur : List UInt8), (wordsGo cur l).length ≤ l.length + 1
  | [], cur => by
    unfold wordsGo
    split <;> simp
  | c :: l, cur => by
    unfold wordsGo
    have i1 := words_count l []
    have i2 := words_count l (cur ++ [c])
    split
    · split
      · simp; omega
      · simp; omega
    · simp; omega

theorem zone_ruleMail (l : List UInt8) : zoneIn (ruleMail l) := by
  intro d r h
  unfold ruleMail at h
  simp only [Option.bind_eq_some_iff] at h
  obtain ⟨q, _, q0, _, r1, _, q2, _, r3, _, q4, _, r5, _, q6, _, r7, _, q8, _, q10, _, r11, _, q12, hz, h⟩ := h
  obtain ⟨rfl, _⟩ := Prod.mk.inj (Option.some.inj h)
  have := zone_bd (z := q12.1) (r := q12.2) hz
  exact ⟨this.1, this.2.1⟩

theorem readMail_any (l : List UInt8) (w : World) (a a0 : Addr) (hc : w.cell? ⟨2, 0, none⟩ = some (errV a)) (hc0 : w.cell? ⟨1, 0, none⟩ = some (errV a0)) (hl : l.length ≤ 140737488355328) :
    Calls Tryz.prog 51 #[.string (bs l), .func (.func 52) #[] #[]] w fun e w' => e = .returned (outV a a0 (readV (ruleMail l))) ∧ Below w.heap.size w w' := by
  have hz := zone_ruleMail l
  have hF := fun (b : Nat) (w1 : World) (h1 : ScAt w1 b l) (h2 : w1.cell? ⟨2, 0, none⟩ = some (errV a)) (h3 : 2 ≠ b) => ruleMail_any b l w1 a h2 h3 h1 hl
  obtain ⟨R, hR⟩ : ∃ R, ruleMail l = R := ⟨_, rfl⟩
  rw [hR] at hz hF ⊢
  rcases R with _ | ⟨⟨⟨y, m, d, h, mi, s⟩, z⟩, r⟩
  · exact readMail_bad l w a hc hl hF
  · have hzb := hz _ _ rfl
    by_cases hr : r = []
    · subst hr
      by_cases hg : Cal.right y m d h mi s
      · by_cases ho : 0 ≤ Cal.mom y m d h mi s - z ∧ Cal.mom y m d h mi s - z ≤ 4102444799
        · have e : readV (some (((y, m, d, h, mi, s), z), [])) = .good (Cal.mom y m d h mi s - z) := by unfold readV; dsimp only; rw [if_neg (by simp), if_neg (by simpa using hg), if_pos ho]
          rw [e]
          exact readMail_good l w a a0 hc hc0 hl y m d h mi s z hg hzb ho hF
        · have e : readV (some (((y, m, d, h, mi, s), z), [])) = .bad 0 := by unfold readV; dsimp only; rw [if_neg (by simp), if_neg (by simpa using hg), if_neg ho]
          rw [e]
          exact readMail_out l w a a0 hc hc0 hl y m d h mi s z hg hzb (by omega) hF
      · have e : readV (some (((y, m, d, h, mi, s), z), [])) = .bad 0 := by unfold readV; dsimp only; rw [if_neg (by simp), if_pos hg]
        rw [e]
        exact readMail_wrong l w a a0 hc hc0 hl y m d h mi s z hg hF
    · have e : readV (some (((y, m, d, h, mi, s), z), r)) = .bad 1 := by unfold readV; dsimp only; rw [if_pos hr]
      rw [e]
      exact readMail_rest l w a hc hl y m d h mi s z r hr hF

set_option maxRecDepth 100000 in
theorem blank_pred (x : Nat) (w : World) : Calls Tryz.prog 50 #[.int .i32 x] w fun e w' => e = .returned (.bool (blankR x)) ∧ Below w.heap.size w w' := by
  have e32 : ((x : Int) == 32) = (x == 32) := by
    rw [Bool.eq_iff_iff]; simp; omega
  have e9 : ((x : Int) == 9) = (x == 9) := by
    rw [Bool.eq_iff_iff]; simp; omega
  unfold blankR
  rw [← e32, ← e9]
  rcases h1 : ((x : Int) == 32) with _ | _
  · rcases h2 : ((x : Int) == 9) with _ | _
    all_goals
      clear e32 e9
      go_enter Tryz.func50, Tryz.ntmps50
      go_wp2
      go_ret
      exact ⟨rfl, Below.refl _ _⟩
  · clear e32 e9
    go_enter Tryz.func50, Tryz.ntmps50
    go_wp2
    go_ret
    exact ⟨rfl, Below.refl _ _⟩

theorem fieldsFunc_any (l : List UInt8) (w : World) (hl : l.length ≤ 4294967296) : Calls Tryz.prog 48 #[.string (bs l), .func (.func 50) #[] #[]] w fun e w' => ∃ v, e = .returned v ∧ OwnS w' w.heap.size v (wordsGo [] l) ∧ Below w.heap.size w w' := by
  have hw := fields_words l
  have hg : Lib.goFieldsP blankR (bs l) = (wordsGo [] l).map bs := by
    rw [← hw, List.map_map]
    conv => lhs; rw [← List.map_id (Lib.goFieldsP blankR (bs l))]
    refine List.map_congr_left fun s _ => ?_
    simp only [Function.comp_apply, id_eq]
  refine (Tryz.strings_FieldsFunc_grows 50 #[] (enters_of Tryz.func50 (by kernel_rfl) rfl) blankR (bs l) w (by rw [bs_size]; exact hl) (fun W x _ _ => blank_pred x W)).mono ?_
  rintro e w' ⟨A, rfl, hA, ho, hb⟩
  rw [hg] at ho ⊢
  refine ⟨_, rfl, ?_, hb⟩
  unfold OwnS cellsS
  rw [List.map_map, List.length_map] at ho
  rw [List.length_map]
  exact ho

/-- strings.Join(v, " ") -/
theorem joinSp_any (w : World) (v : Value) (ls : List (List UInt8)) (hv : StrsAt w v ls) (hn : ls.length ≤ 140737488355328) (hl : (joinB ls).length ≤ 140737488355328) :
    Calls Tryz.prog 23 #[v, .string (bs [32])] w fun e w' => e = .returned (.string (bs (joinB ls))) ∧ Below w.heap.size w w' := by
  rcases hv with ⟨rfl, rfl⟩ | ⟨b, o, c, rfl, h1, h2, h3⟩
  · exact (Tryz.strings_Join_none none 0 (bs [32]) w).mono fun _ _ ⟨he, hw⟩ => ⟨he, hw ▸ Below.refl _ _⟩
  · have e : (ls.map bs).map (·.data.toList) = ls := by rw [List.map_map]; exact List.map_id ls
    have hj := Tryz.strings_Join b o c (ls.map bs) (bs [32]) w (fun j x hx => by
      rw [List.getElem?_map] at hx
      cases hq : ls[j]? with
      | none => rw [hq] at hx; cases hx
      | some y =>
        rw [hq] at hx
        obtain rfl := Option.some.inj hx
        have hlt := (List.getElem?_eq_some_iff.1 hq).1
        rw [h3 j hlt]
        simp [List.getD, hq]) h2 (by simpa using hn) (by simpa using h1) (by rw [e, joinB_lib]; exact hl)
    rw [e, joinB_lib, List.length_map] at hj
    exact hj

theorem parseMail_any (l : List UInt8) (w : World) (a a0 : Addr) (hc : w.cell? ⟨2, 0, none⟩ = some (errV a)) (hc0 : w.cell? ⟨1, 0, none⟩ = some (errV a0)) (hl : l.length ≤ 4294967296) :
    Calls Tryz.prog 22 #[.string (bs l)] w fun e w' => e = .returned (outV a a0 (readV (ruleMail (joinB (wordsGo [] l))))) ∧ Below w.heap.size w w' := by
  have hwl := words_len l []
  have hwc := words_count l []
  have hf := fieldsFunc_any l w hl
  have hr := fun w0 (h : Below w.heap.size w w0) (hjl : (joinB (wordsGo [] l)).length ≤ 140737488355328) => readMail_any (joinB (wordsGo [] l)) w0 a a0 ((h.cell (cell_lt hc)).trans hc) ((h.cell (cell_lt hc0)).trans hc0) hjl
  obtain ⟨ws, hws⟩ : ∃ ws, wordsGo [] l = ws := ⟨_, rfl⟩
  rw [hws] at hwl hwc hf hr ⊢
  simp only [List.length_nil, Nat.zero_add] at hwl
  have hj := fun w0 v (hv : StrsAt w0 v ws) => joinSp_any w0 v ws hv (by omega) (by omega)
  obtain ⟨J, hJ⟩ : ∃ J, joinB ws = J := ⟨_, rfl⟩
  rw [hJ] at hwl hr hj ⊢
  obtain ⟨O, hO⟩ : ∃ O, readV (ruleMail J) = O := ⟨_, rfl⟩
  rw [hO] at hr ⊢
  have hjl : J.length ≤ 140737488355328 := by omega
  have HR := Lib.hid (fun w0 h => hr w0 h hjl)
  have HF := Lib.hid hf
  have HJ := Lib.hid hj
  clear hr hO hJ hf hj hws hc hc0 hwc
  go_enter Tryz.func22, Tryz.ntmps22
  go_wp2_with fail
  refine HF.out.mono ?_
  rintro e w1 ⟨v, rfl, ho, hb1⟩
  go_wp2_with fail
  refine (HJ.out _ _ ho.strs).mono ?_
  rintro e w2 ⟨rfl, hb2⟩
  have hz2 := hb1.trans (hb2.mono hb1.size)
  go_wp2_with fail
  refine (HR.out _ hz2).mono ?_
  rintro e w3 ⟨rfl, hb3⟩
  have hz3 := hz2.trans (hb3.mono hz2.size)
  rcases O with t | _ | k
  all_goals
    unfold outV
    try unfold errV
    go_wp2
    go_ret2
    exact ⟨rfl, hz3⟩

end Go.Proofs.YtcjnpklmfcbofaaGreatDoor
end

/- The reference's like. -/
set_option linter.unusedVariables false
set_option linter.unusedSimpArgs false
section
namespace Go.Proofs.YtcjnpklmfcbofaaGreatDoor
open Go.RowKit

theorem likeL_len : ∀ (s p : List UInt8), s.length ≠ p.length → likeL s p = false := by
  intro s
  induction s with
  | nil => intro p h; cases p with
    | nil => exact absurd rfl h
    | cons _ _ => rfl
  | cons c s ih => intro p h; cases p with
    | nil => rfl
    | cons d ps => simp only [likeL]; rw [ih ps (by simpa using h)]; simp

set_option maxRecDepth 100000 in
set_option maxHeartbeats 1000000 in
theorem like_any (s p : List UInt8) (w : World) (hs : s.length ≤ 1099511627776) : Calls Tryz.prog 65 #[.string (bs s), .string (bs p)] w fun e w' => e = .returned (.bool (likeL s p)) ∧ Below w.heap.size w w' := by
  obtain ⟨R, hR⟩ : ∃ R, likeL s p = R := ⟨_, rfl⟩
  rw [hR]
  by_cases hl : s.length = p.length
  · have HR := Lib.hid hR
    have hll : ¬ ((s.length : Int) = p.length) → False := fun h => h (by rw [hl])
    have hpl : (p.length : Int) = s.length := by rw [hl]
    clear hR hll
    go_enter Tryz.func65, Tryz.ntmps65
    go_wp2
    go_loopw [5] (fun c wr => ∃ k : Nat, k ≤ s.length ∧ c = .int .i64 k ∧ Hid (likeL (s.drop k) (p.drop k) = R) ∧ Below w.heap.size w wr) (fun c _ => s.length - (intOf c).toNat)
    case atStart => exact ⟨0, Nat.zero_le _, rfl, HR.out, Below.refl _ _⟩
    case round =>
      obtain ⟨k, hk, rfl, hr, hB⟩ := hrel
      by_cases hlt : k < s.length
      · have hlp : k < p.length := by omega
        obtain ⟨c, hc⟩ : ∃ c, (bs s)[k]'(by rw [bs_size]; exact hlt) = c := ⟨_, rfl⟩
        obtain ⟨d, hd⟩ : ∃ d, (bs p)[k]'(by rw [bs_size]; exact hlp) = d := ⟨_, rfl⟩
        have hstep : likeL (s.drop k) (p.drop k) = (likeB c d && likeL (s.drop (k + 1)) (p.drop (k + 1))) := by
          rw [List.drop_eq_getElem_cons hlt, List.drop_eq_getElem_cons hlp, show s[k] = c from hc, show p[k] = d from hd]; rfl
        have hr2 := hr.out
        rw [hstep] at hr2
        have hlt' : (k : Int) < s.length := by omega
        have hlp' : (k : Int) < p.length := by omega
        clear hstep hr
        have h256 := c.toNat_lt
        by_cases h48 : d = 48
        · subst h48
          by_cases hin : 48 ≤ c.toNat ∧ c.toNat ≤ 57
          · have hb : likeB c 48 = true := by unfold likeB; simp [hin]
            rw [hb, Bool.true_and] at hr2
            have HR2 := Lib.hid hr2
            have h1 : ¬ (c.toNat : Int) < 48 := by omega
            have h2 : ¬ 57 < (c.toNat : Int) := by omega
            have n1 : decide ((c.toNat : Int) < 48) = false := decide_eq_false h1
            have n2 : decide ((57 : Int) < (c.toNat : Int)) = false := decide_eq_false h2
            clear hr2 hin hb
            go_wp2
            refine wp_region_grow (by kernel_rfl) (by kernel_rfl) ?_
            repeat (go_big_quiet_step (fail))
            refine wpQuiet_nil ?_
            rintro _ ⟨gw, rfl⟩
            go_wp2
            go_roundw
            case rel => exact ⟨k + 1, by omega, by go_num, HR2.out, hB.trans (gw.h.mono hB.size)⟩
            case measure => simp [intOf]; omega
          · have hb : likeB c 48 = false := by unfold likeB; simp [hin]
            rw [hb, Bool.false_and] at hr2
            subst hr2
            have hcase : (c.toNat : Int) < 48 ∨ (48 : Int) ≤ c.toNat ∧ 57 < (c.toNat : Int) := by omega
            clear hin hb
            rcases hcase with h1 | ⟨h1, h2⟩
            all_goals
              try have n1 : decide ((c.toNat : Int) < 48) = true := decide_eq_true h1
              try have n1 : decide ((c.toNat : Int) < 48) = false := decide_eq_false (by omega)
              try have n2 : decide ((57 : Int) < (c.toNat : Int)) = true := decide_eq_true h2
              go_wp2
              refine wp_region_grow (by kernel_rfl) (by kernel_rfl) ?_
              repeat (go_big_quiet_step (fail))
              refine wpQuiet_nil ?_
              rintro _ ⟨gw, rfl⟩
              go_wp2
              go_ret
              exact ⟨rfl, hB.trans (gw.h.mono hB.size)⟩
        · have hne : ((d.toNat : Int) == 48) = false := by
            rw [beq_eq_false_iff_ne]; intro e; exact h48 (UInt8.toNat_inj.1 (by rw [show (48 : UInt8).toNat = 48 from rfl]; omega))
          have hne2 : ((d.toNat : Int) != 48) = true := by simp [bne, hne]
          by_cases hcd : c = d
          · subst hcd
            have hb : likeB c c = true := by unfold likeB; simp [h48]
            rw [hb, Bool.true_and] at hr2
            have HR2 := Lib.hid hr2
            clear hr2 hb h48
            go_wp2
            refine wp_region_grow (by kernel_rfl) (by kernel_rfl) ?_
            repeat (go_big_quiet_step (fail))
            refine wpQuiet_nil ?_
            rintro _ ⟨gw, rfl⟩
            go_wp2
            go_roundw
            case rel => exact ⟨k + 1, by omega, by go_num, HR2.out, hB.trans (gw.h.mono hB.size)⟩
            case measure => simp [intOf]; omega
          · have hb : likeB c d = false := by unfold likeB; simp [h48, hcd]
            rw [hb, Bool.false_and] at hr2
            subst hr2
            have hcd2 : ((c.toNat : Int) == d.toNat) = false := by
              rw [beq_eq_false_iff_ne]; intro e; exact hcd (UInt8.toNat_inj.1 (by omega))
            have hcd3 : ((c.toNat : Int) != d.toNat) = true := by simp [bne, hcd2]
            clear hb h48 hcd
            go_wp2
            refine wp_region_grow (by kernel_rfl) (by kernel_rfl) ?_
            repeat (go_big_quiet_step (fail))
            refine wpQuiet_nil ?_
            rintro _ ⟨gw, rfl⟩
            go_wp2
            go_ret
            exact ⟨rfl, hB.trans (gw.h.mono hB.size)⟩
      · obtain rfl : k = s.length := by omega
        have hr2 := hr.out
        rw [List.drop_length, hl, List.drop_length] at hr2
        have hr3 : R = true := by rw [← hr2]; rfl
        subst hr3
        go_wp2
        go_ret
        exact ⟨rfl, hB⟩
  · have hR2 : R = false := by rw [← hR]; exact likeL_len s p hl
    subst hR2
    have hl' : ((s.length : Int) == p.length) = false := by
      rw [beq_eq_false_iff_ne]; omega
    have hl2 : ¬ (s.length : Int) = p.length := by omega
    clear hR
    go_enter Tryz.func65, Tryz.ntmps65
    go_wp2
    go_ret
    exact ⟨rfl, Below.refl _ _⟩

end Go.Proofs.YtcjnpklmfcbofaaGreatDoor
end

/- The reference's value and place. -/
set_option linter.unusedVariables false
set_option linter.unusedSimpArgs false
section
namespace Go.Proofs.YtcjnpklmfcbofaaGreatDoor
open Go.RowKit

theorem dig_bd {c : UInt8} (h : isD c = true) : (48 : Int) ≤ (c.toNat : Int) ∧ (c.toNat : Int) ≤ 57 := by
  have := isD_ne h
  omega

set_option maxRecDepth 100000 in
set_option maxHeartbeats 1000000 in
theorem value_any (s : List UInt8) (w : World) (hs : s.length ≤ 8) (hd : ∀ c ∈ s, isD c = true) : Calls Tryz.prog 67 #[.string (bs s)] w fun e w' => e = .returned (.int .i64 (valueL s)) ∧ Below w.heap.size w w' := by
  obtain ⟨R, hR⟩ : ∃ R, valueL s = R := ⟨_, rfl⟩
  rw [hR]
  have HR := Lib.hid hR
  have HD := Lib.hid hd
  clear hR hd
  go_enter Tryz.func67, Tryz.ntmps67
  go_wp2
  go_loopw [3, 4] (fun v c wr => ∃ (k : Nat) (n : Int), k ≤ s.length ∧ c = .int .i64 k ∧ v = .int .i64 n ∧ 0 ≤ n ∧ n + 1 ≤ 10 ^ k ∧ Hid ((s.drop k).foldl (fun n c => 10 * n + (((c - 48 : UInt8).toNat : Nat) : Int)) n = R) ∧ Below w.heap.size w wr) (fun _ c _ => s.length - (intOf c).toNat)
  case atStart => exact ⟨0, 0, Nat.zero_le _, rfl, rfl, Int.le_refl _, by decide, HR.out, Below.refl _ _⟩
  case round =>
    obtain ⟨k, n, hk, rfl, rfl, n0, n1, hr, hB⟩ := hrel
    by_cases hlt : k < s.length
    · obtain ⟨c, hc⟩ : ∃ c, (bs s)[k]'(by rw [bs_size]; exact hlt) = c := ⟨_, rfl⟩
      have hc' : s[k] = c := hc
      have hdc := HD.out c (by rw [← hc']; exact List.getElem_mem _)
      have hr2 := hr.out
      rw [List.drop_eq_getElem_cons hlt, hc', List.foldl_cons, isD_sub hdc] at hr2
      have HR2 := Lib.hid hr2
      obtain ⟨h1, h2⟩ := dig_bd hdc
      have hlt' : (k : Int) < s.length := by omega
      have hp : (10 : Int) ^ (k + 1) = 10 ^ k * 10 := Int.pow_succ ..
      have hp8 : (10 : Int) ^ k ≤ 100000000 := by
        have h := Nat.pow_le_pow_right (n := 10) (by decide) (show k ≤ 8 by omega)
        have : ((10 ^ k : Nat) : Int) ≤ ((10 ^ 8 : Nat) : Int) := by exact_mod_cast h
        simpa using this
      have n9 : n ≤ 100000000 := by omega
      have hz1 : 10 * n + 1 + ((c.toNat : Int) - 48) ≤ 10 ^ (k + 1) := by omega
      clear hr hr2 hdc hp hp8 hc'
      go_wp2
      go_roundw
      case rel => exact ⟨k + 1, 10 * n + ((c.toNat : Int) - 48), by omega, by go_num, by go_num, by omega, by omega, HR2.out, hB⟩
      case measure => simp [intOf]; omega
    · obtain rfl : k = s.length := by omega
      have hr2 := hr.out
      rw [List.drop_length, List.foldl_nil] at hr2
      subst hr2
      clear hr
      go_wp2
      go_ret
      exact ⟨rfl, hB⟩

set_option maxRecDepth 100000 in
set_option maxHeartbeats 1000000 in
theorem place_any (m : Nat) (s t : List UInt8) (w : World) (hm : m ≤ 12) (ht : t.length = 3 * m) (hs : s.length ≤ 1099511627776) : Calls Tryz.prog 64 #[.string (bs s), .string (bs t)] w fun e w' => e = .returned (.int .i64 (plL m 0 t s)) ∧ Below w.heap.size w w' := by
  obtain ⟨R, hR⟩ : ∃ R, plL m 0 t s = R := ⟨_, rfl⟩
  have HR := Lib.hid hR
  rw [hR]
  clear hR
  have hts : (bs t).size = 3 * m := by rw [bs_size, ht]
  go_enter Tryz.func64, Tryz.ntmps64
  go_wp2
  go_loopg [5] m (fun kq i wr => ∃ j : Nat, j ≤ m ∧ kq = m - j ∧ i = .int .i64 (3 * (j : Int)) ∧ Below w.heap.size w wr ∧ Hid (plL (m - j) j (t.drop (3 * j)) s = R))
  case atStart => exact ⟨0, Nat.zero_le _, rfl, rfl, Below.refl _ _, HR⟩
  case round =>
    obtain ⟨j, hj, hkq, rfl, hB, hnr⟩ := hrel
    by_cases hjm : j < m
    · have hsl : ∀ w : World, (Instr.slice 9 (.string (bs t)) (some (.int .i64 (3 * (j : Int)))) (some (.int .i64 (3 * (j : Int) + 3))) none).run Tryz.prog w = .ok (.string (bs ((t.drop (3 * j)).take 3))) w := fun w => by
        have := run_mid t (3 * j) (3 * j + 3) (by omega) (by omega) w
        rw [show 3 * j + 3 - 3 * j = 3 by omega] at this
        simpa using this
      obtain ⟨q, hq⟩ : ∃ q, m - j = q + 1 := ⟨m - j - 1, by omega⟩
      have hn2 := hnr.out
      rw [hq, plL] at hn2
      obtain ⟨T, hT⟩ : ∃ T, (t.drop (3 * j)).take 3 = T := ⟨_, rfl⟩
      rw [hT] at hn2 hsl
      have hlj : 3 * (j : Int) + 3 ≤ 3 * (m : Int) := by omega
      by_cases hp : s = T
      · rw [if_pos hp] at hn2
        subst hn2 hp
        have hdv : (3 * (j : Int)).tdiv 3 = j := by rw [Int.tdiv_eq_ediv_of_nonneg (by omega)]; omega
        clear hnr
        go_wp2
        go_ret
        exact ⟨by first | rfl | (apply ret_int; omega) | (rw [hdv]), hB⟩
      · rw [if_neg hp] at hn2
        have hne : (s == T) = false := by simpa using hp
        have HN := Lib.hid hn2
        clear hnr hn2 hp
        go_wp2
        go_roundg (m - (j + 1))
        case measure => omega
        case rel => exact ⟨j + 1, by omega, rfl, by simp; omega, hB, by rw [show m - (j + 1) = q by omega, show 3 * (j + 1) = 3 * j + 3 by omega, ← List.drop_drop]; exact HN⟩
    · obtain rfl : j = m := by omega
      have hn2 := hnr.out
      rw [Nat.sub_self] at hn2
      have hn3 : R = -1 := hn2.symm
      subst hn3
      clear hnr hn2
      go_wp2
      go_ret
      exact ⟨rfl, hB⟩

end Go.Proofs.YtcjnpklmfcbofaaGreatDoor
end

/- The reference's Moment, and the law DatesCivil. -/
set_option linter.unusedVariables false
set_option linter.unusedSimpArgs false
section
namespace Go.Proofs.YtcjnpklmfcbofaaGreatDoor
open Go.RowKit

set_option maxRecDepth 100000 in
set_option maxHeartbeats 4000000 in
theorem refMoment_in (y m d h mi s wk : Int) (w : World) (hr : Cal.right y m d h mi s) :
    Calls Tryz.prog 89 #[.agg #[.int .i64 y, .int .i64 m, .int .i64 d, .int .i64 h, .int .i64 mi, .int .i64 s, .int .i64 wk]] w fun e w' => e = .returned (.int .i64 (Cal.mom y m d h mi s)) ∧ Below w.heap.size w w' := by
  obtain ⟨⟨y0, y1⟩, ⟨m0, m1⟩, ⟨e0, e1⟩, ⟨h0, h1⟩, ⟨i0, i1⟩, ⟨s0, s1⟩⟩ := hr
  have hd := Cal.dim_01 y m
  have hb := Cal.dby_bd y y0 (by omega)
  go_enter Tryz.func89, Tryz.ntmps89
  go_wp2
  go_quiet ((go_at_call 77; exact Calls.quiet_of_same (before_in _ _ (by omega) (by omega))))
  go_wp2
  go_loopw [3, 4] (fun n k wr => ∃ j : Int, 1 ≤ j ∧ j ≤ m ∧ n = .int .i64 (Cal.dby y + d - 1 + Cal.cum y j) ∧ k = .int .i64 j ∧ wr.heap[w.heap.size]? = some (.cells (civA y m d h mi s wk) 64 (0, 0)) ∧ Below w.heap.size w wr ∧ w.heap.size < wr.heap.size) (fun _ k _ => (m - intOf k).toNat)
  case atStart => exact ⟨1, by omega, m0, by rw [Cal.cum_1]; simp, rfl, heap_new _ _, below_drewN ((Below.refl _ _).alloc (Nat.le_refl _) _) _, by simp⟩
  case round =>
    obtain ⟨j, hj0, hj1, rfl, rfl, hk, hbw, hsz⟩ := hrel
    have hc := Cal.cum_bd y j hj0 (by omega)
    have hdj := Cal.dim_01 y j
    have H := Lib.hid hk
    obtain ⟨c0, c1, c2, c3, c4, c5, c6, _⟩ := civA_cells hk
    clear hk
    by_cases hjm : j < m
    · have hs := Lib.hid (Cal.cum_succ y j hj0 (by omega))
      go_wp2_with fail
      refine (refDays_any _ _ _).mono ?_
      rintro e w1 ⟨rfl, hb1⟩
      have hz1 := hb1.size
      go_wp2
      go_roundw
      case rel => exact ⟨j + 1, by omega, by omega, by rw [hs.out]; go_num, by go_num, (hb1.block _ (by omega)).trans H.out, hbw.trans (hb1.mono (by omega)), by omega⟩
      case measure => simp [intOf]; omega
    · obtain rfl : j = m := by omega
      go_wp2
      go_ret
      exact ⟨ret_int (by unfold Cal.mom Cal.dnum; omega), hbw⟩

end Go.Proofs.YtcjnpklmfcbofaaGreatDoor
end

/- The reference's zone and made. -/
set_option linter.unusedVariables false
set_option linter.unusedSimpArgs false
section
namespace Go.Proofs.YtcjnpklmfcbofaaGreatDoor
open Go.RowKit

def zoneV : Option Int → Value
  | none => .tuple #[.int .i64 0, .bool false]
  | some z => .tuple #[.int .i64 z, .bool true]

theorem like_dig {n : Nat} {s : List UInt8} (h : likeL s (List.replicate n 48) = true) : s.length = n ∧ ∀ c ∈ s, isD c = true := by
  induction n generalizing s with
  | zero => cases s with
    | nil => exact ⟨rfl, by simp⟩
    | cons c s => cases h
  | succ n ih => cases s with
    | nil => cases h
    | cons c s =>
      have h' : (likeB c 48 && likeL s (List.replicate n 48)) = true := h
      rw [Bool.and_eq_true, likeB_dig] at h'
      obtain ⟨a, b⟩ := ih h'.2
      refine ⟨by simp [a], fun d hd => ?_⟩
      rcases List.mem_cons.1 hd with rfl | hd
      · exact h'.1
      · exact b d hd
theorem value_bd : ∀ (s : List UInt8) (n : Int), (∀ c ∈ s, isD c = true) → 0 ≤ n → 0 ≤ s.foldl (fun n c => 10 * n + (((c - 48 : UInt8).toNat : Nat) : Int)) n ∧ s.foldl (fun n c => 10 * n + (((c - 48 : UInt8).toNat : Nat) : Int)) n + 1 ≤ (n + 1) * 10 ^ s.length
  | [], n, _, h => by simp; exact h
  | c :: s, n, hd, h => by
    have h1 := dig_bd (hd c List.mem_cons_self)
    have h2 := isD_sub (hd c List.mem_cons_self)
    obtain ⟨a, b⟩ := value_bd s (10 * n + (((c - 48 : UInt8).toNat : Nat) : Int)) (fun d h => hd d (List.mem_cons_of_mem _ h)) (by omega)
    refine ⟨a, Int.le_trans b ?_⟩
    rw [List.length_cons, Int.pow_succ, show (n + 1) * (10 ^ s.length * 10) = ((n + 1) * 10) * 10 ^ s.length by rw [Int.mul_comm (10 ^ s.length) 10, Int.mul_assoc]]
    exact Int.mul_le_mul_of_nonneg_right (by omega) (Int.pow_nonneg (by omega))
theorem valueL_bd {s : List UInt8} {n : Nat} (h : likeL s (List.replicate n 48) = true) : 0 ≤ valueL s ∧ valueL s + 1 ≤ 10 ^ n := by
  obtain ⟨h1, h2⟩ := like_dig h
  have := value_bd s 0 h2 (by omega)
  rw [h1] at this
  unfold valueL
  simpa using this

theorem like_zone {s : List UInt8} {d : UInt8} (hd : d ≠ 48) (h : likeL s [d, 48, 48, 48, 48] = true) : s.length = 5 ∧ s.headD 0 = d ∧ likeL ((s.drop 1).take 2) (List.replicate 2 48) = true ∧ likeL ((s.drop 3).take 2) (List.replicate 2 48) = true := by
  have hl := likeL_len2 h
  simp at hl
  match s, hl with
  | [c0, c1, c2, c3, c4], _ =>
    have := likeL_append [d] [48, 48, 48, 48] [c0, c1, c2, c3, c4]
    simp only [List.cons_append, List.nil_append, List.length_cons, List.length_nil, List.take_succ_cons, List.take_zero, List.drop_succ_cons, List.drop_zero] at this
    rw [this] at h
    have h2 := likeL_append [48, 48] [48, 48] [c1, c2, c3, c4]
    simp only [List.cons_append, List.nil_append, List.length_cons, List.length_nil, List.take_succ_cons, List.take_zero, List.drop_succ_cons, List.drop_zero] at h2
    rw [h2, Bool.and_eq_true, Bool.and_eq_true] at h
    refine ⟨rfl, ?_, h.2.1, h.2.2⟩
    have := h.1
    simp [likeL, likeB_lit hd] at this
    exact this

set_option maxRecDepth 100000 in
set_option maxHeartbeats 2000000 in
theorem refZone_any (s : List UInt8) (w : World) (hs : s.length ≤ 1099511627776) : Calls Tryz.prog 66 #[.string (bs s)] w fun e w' => e = .returned (zoneV (zoneR s)) ∧ Below w.heap.size w w' := by
  obtain ⟨A, hA⟩ : ∃ A, likeL s [43, 48, 48, 48, 48] = A := ⟨_, rfl⟩
  obtain ⟨B, hB⟩ : ∃ B, likeL s [45, 48, 48, 48, 48] = B := ⟨_, rfl⟩
  have hl1 := fun w0 => like_any s [43, 48, 48, 48, 48] w0 hs
  have hl2 := fun w0 => like_any s [45, 48, 48, 48, 48] w0 hs
  rw [hA] at hl1
  rw [hB] at hl2
  have HL1 := Lib.hid hl1
  have HL2 := Lib.hid hl2
  clear hl1 hl2
  by_cases hno : A = false ∧ B = false
  · obtain ⟨rfl, rfl⟩ := hno
    have hz : zoneR s = none := by unfold zoneR; rw [hA, hB]; rfl
    rw [hz]
    clear hA hB hz
    go_enter Tryz.func66, Tryz.ntmps66
    go_wp2_with fail
    refine (HL1.out _).mono ?_
    rintro e w1 ⟨rfl, hb1⟩
    go_wp2_with fail
    refine (HL2.out _).mono ?_
    rintro e w2 ⟨rfl, hb2⟩
    go_wp2
    go_ret2
    exact ⟨rfl, hb1.trans (hb2.mono hb1.size)⟩
  · have hz0 : ¬ (likeL s [43, 48, 48, 48, 48] = false ∧ likeL s [45, 48, 48, 48, 48] = false) := by rw [hA, hB]; exact hno
    obtain ⟨d, hd, hp5, hh, hx, hy⟩ : ∃ d : UInt8, d ≠ 48 ∧ s.length = 5 ∧ s.headD 0 = d ∧ likeL ((s.drop 1).take 2) (List.replicate 2 48) = true ∧ likeL ((s.drop 3).take 2) (List.replicate 2 48) = true := by
      rcases A with _ | _
      · rcases B with _ | _
        · exact absurd ⟨rfl, rfl⟩ hno
        · have := like_zone (by decide) hB
          exact ⟨45, by decide, this⟩
      · have := like_zone (by decide) hA
        exact ⟨43, by decide, this⟩
    have hzr : zoneR s = if valueL ((s.drop 1).take 2) > 23 ∨ valueL ((s.drop 3).take 2) > 59 then none
        else if s.headD 0 = 45 then some (-3600 * valueL ((s.drop 1).take 2) - 60 * valueL ((s.drop 3).take 2)) else some (3600 * valueL ((s.drop 1).take 2) + 60 * valueL ((s.drop 3).take 2)) := by
      unfold zoneR; rw [if_neg hz0]
    rw [hzr]
    have bx := valueL_bd hx
    have by' := valueL_bd hy
    obtain ⟨lx, dx⟩ := like_dig hx
    obtain ⟨ly, dy⟩ := like_dig hy
    have hv1 := fun w0 => value_any ((s.drop 1).take 2) w0 (by rw [lx]; decide) dx
    have hv2 := fun w0 => value_any ((s.drop 3).take 2) w0 (by rw [ly]; decide) dy
    have s1 := fun w0 => run_mid s 1 3 (by decide) (by omega) w0
    have s2 := fun w0 => run_mid s 3 5 (by decide) (by omega) w0
    obtain ⟨x, hxe⟩ : ∃ x, valueL ((s.drop 1).take 2) = x := ⟨_, rfl⟩
    obtain ⟨y, hye⟩ : ∃ y, valueL ((s.drop 3).take 2) = y := ⟨_, rfl⟩
    obtain ⟨X, hX⟩ : ∃ X, (s.drop 1).take 2 = X := ⟨_, rfl⟩
    obtain ⟨Y, hY⟩ : ∃ Y, (s.drop 3).take 2 = Y := ⟨_, rfl⟩
    rw [show 3 - 1 = 2 from rfl] at s1
    rw [show 5 - 3 = 2 from rfl] at s2
    rw [hxe] at bx hv1 ⊢
    rw [hye] at by' hv2 ⊢
    rw [hX] at s1 hv1
    rw [hY] at s2 hv2
    rw [hh]
    obtain ⟨x0, x1⟩ := bx
    obtain ⟨y0, y1⟩ := by'
    have x9 : x ≤ 99 := by have h9 : x + 1 ≤ 100 := by simpa using x1
                           omega
    have y9 : y ≤ 99 := by have h9 : y + 1 ≤ 100 := by simpa using y1
                           omega
    have hs0 : (bs s)[0]'(by rw [bs_size]; omega) = d := by
      rw [← hh]
      show s[0] = _
      cases s with
      | nil => simp at hp5
      | cons c s => rfl
    have HV1 := Lib.hid hv1
    have HV2 := Lib.hid hv2
    simp at s1 s2
    clear hA hB hz0 hzr hx hy lx dx ly dy hv1 hv2 hxe hye hX hY hh x1 y1
    have h5 : (s.length : Int) = 5 := by omega
    have HDD : Hid (((d.toNat : Int) == 45) = decide (d = 45)) := by
      show _ = _
      by_cases h : d = 45
      · subst h; rfl
      · rw [decide_eq_false h, beq_eq_false_iff_ne]
        intro e
        exact h (UInt8.toNat_inj.1 (by rw [show (45 : UInt8).toNat = 45 from rfl]; omega))
    go_enter Tryz.func66, Tryz.ntmps66
    go_wp2_with fail
    refine (HL1.out _).mono ?_
    rintro e w1 ⟨rfl, hb1⟩
    rcases A with _ | _
    · obtain rfl : B = true := by
        rcases B with _ | _
        · exact absurd ⟨rfl, rfl⟩ hno
        · rfl
      go_wp2_with fail
      refine (HL2.out _).mono ?_
      rintro e w2 ⟨rfl, hb2⟩
      have hbb : Below w.heap.size w w2 := hb1.trans (hb2.mono hb1.size)
      clear hno hb1 hb2 HL1 HL2
      go_wp2
      refine wp_region_grow (by kernel_rfl) (by kernel_rfl) ?_
      repeat (go_big_quiet_step ((go_at_call 67; first | with_reducible exact grow_call (HV1.out _) | with_reducible exact grow_call (HV2.out _))))
      refine wpQuiet_nil ?_
      rintro _ ⟨gw, rfl⟩
      go_wp2
      all_goals
        go_ret2
        refine ⟨?_, hbb.trans (gw.h.mono hbb.size)⟩
        first | rfl | (exfalso; have h9 := HDD.out; simp_all)
    · have hbb : Below w.heap.size w w1 := hb1
      clear hno hb1 HL1 HL2
      go_wp2
      refine wp_region_grow (by kernel_rfl) (by kernel_rfl) ?_
      repeat (go_big_quiet_step ((go_at_call 67; first | with_reducible exact grow_call (HV1.out _) | with_reducible exact grow_call (HV2.out _))))
      refine wpQuiet_nil ?_
      rintro _ ⟨gw, rfl⟩
      go_wp2
      all_goals
        go_ret2
        refine ⟨?_, hbb.trans (gw.h.mono hbb.size)⟩
        first | rfl | (exfalso; have h9 := HDD.out; simp_all)

open Classical in
/-- what the reference makes of a date and a zone: the moment; the error's number -/
noncomputable def madeI (y m d h mi s z : Int) : Int × Int :=
  if ¬ Cal.right y m d h mi s then (0, 1)
  else if 0 ≤ Cal.mom y m d h mi s - z ∧ Cal.mom y m d h mi s - z ≤ 4102444799 then (Cal.mom y m d h mi s - z, 0)
  else (0, 1)
def pairV (p : Int × Int) : Value := .tuple #[.int .i64 p.1, .int .i64 p.2]

set_option maxRecDepth 100000 in
set_option maxHeartbeats 2000000 in
theorem made_any (y m d h mi s z : Int) (w : World) (hz : -86400 ≤ z ∧ z ≤ 86400) : Calls Tryz.prog 68 #[.agg #[.int .i64 y, .int .i64 m, .int .i64 d, .int .i64 h, .int .i64 mi, .int .i64 s, .int .i64 0], .int .i64 z] w fun e w' => e = .returned (pairV (madeI y m d h mi s z)) ∧ Below w.heap.size w w' := by
  obtain ⟨z0, z1⟩ := hz
  obtain ⟨W1, hW1⟩ : ∃ W1, w.alloc (.cells (civA y m d h mi s 0) 64) = W1 := ⟨_, rfl⟩
  have hk : W1.heap[w.heap.size]? = some (.cells (civA y m d h mi s 0) 64 (0, 0)) := by rw [← hW1]; exact heap_new _ _
  have hB : Below w.heap.size w W1 := by rw [← hW1]; exact (Below.refl _ _).alloc (Nat.le_refl _) _
  have hlt : w.heap.size < W1.heap.size := by rw [← hW1]; simp
  unfold civA at hW1
  have HW := Lib.hid hW1
  have HK := Lib.hid hk
  obtain ⟨c0, c1, c2, c3, c4, c5, c6, _⟩ := civA_cells hk
  clear hk hW1
  by_cases hr : Cal.right y m d h mi s
  · have hm := Cal.mom_bd hr
    have e : madeI y m d h mi s z = if 0 ≤ Cal.mom y m d h mi s - z ∧ Cal.mom y m d h mi s - z ≤ 4102444799 then (Cal.mom y m d h mi s - z, 0) else (0, 1) := by
      unfold madeI
      rw [if_neg (fun h => h hr)]
    rw [e]
    have HM := Lib.hid (fun w0 => refMoment_in y m d h mi s 0 w0 hr)
    have HR := Lib.hid hr
    obtain ⟨T, hT⟩ : ∃ T, Cal.mom y m d h mi s = T := ⟨_, rfl⟩
    rw [hT] at hm HM ⊢
    obtain ⟨m0, m1⟩ := hm
    clear e hT hr
    go_enter Tryz.func68, Tryz.ntmps68
    go_wp2_with fail
    rw [HW.out]
    refine (right_yes y m d h mi s 0 _ HR.out).mono ?_
    rintro e w1 ⟨rfl, hb1⟩
    have hbb := hB.trans (hb1.mono hB.size)
    obtain ⟨c0, c1, c2, c3, c4, c5, c6, _⟩ := civA_cells ((hb1.block _ hlt).trans HK.out)
    go_wp2_with fail
    refine (HM.out _).mono ?_
    rintro e w2 ⟨rfl, hb2⟩
    have hbc := hbb.trans (hb2.mono hbb.size)
    clear hb1 hb2 hbb
    go_wp2
    all_goals
      go_ret2
      exact ⟨rfl, hbc⟩
  · have e : madeI y m d h mi s z = (0, 1) := by
      unfold madeI
      rw [if_pos hr]
    rw [e]
    have HR := Lib.hid hr
    clear e hr
    go_enter Tryz.func68, Tryz.ntmps68
    go_wp2_with fail
    rw [HW.out]
    refine (right_no y m d h mi s 0 _ HR.out).mono ?_
    rintro e w1 ⟨rfl, hb1⟩
    go_wp2
    go_ret2
    exact ⟨rfl, hB.trans (hb1.mono hB.size)⟩

end Go.Proofs.YtcjnpklmfcbofaaGreatDoor
end

/- The reference's ParseDay. Printed by gen36.py. -/
set_option linter.unusedVariables false
set_option linter.unusedSimpArgs false
section
namespace Go.Proofs.YtcjnpklmfcbofaaGreatDoor
open Go.RowKit

/-- what the reference's readers hand back: the moment; the error's number -/
noncomputable def parsedI : Option RuleD → Int × Int
  | none => (0, 2)
  | some ((y, m, d, h, mi, s), z) => madeI y m d h mi s z

theorem plL_le : ∀ (k i : Nat) (t s : List UInt8), plL k i t s ≤ i + k
  | 0, i, t, s => by unfold plL; omega
  | k + 1, i, t, s => by
    unfold plL
    split
    · omega
    · have := plL_le k (i + 1) (t.drop 3) s
      omega

/-- both read the same -/
theorem read_same (R : Option (RuleD × List UInt8)) : (∃ t, readV R = .good t ∧ parsedI (fullR R) = (t, 0)) ∨ (readV R = .bad 0 ∧ parsedI (fullR R) = (0, 1)) ∨ (readV R = .bad 1 ∧ parsedI (fullR R) = (0, 2)) := by
  rcases R with _ | ⟨⟨⟨y, m, d, h, mi, s⟩, z⟩, r⟩
  · exact .inr (.inr ⟨rfl, rfl⟩)
  · cases r with
    | cons c r =>
      refine .inr (.inr ⟨?_, rfl⟩)
      unfold readV; dsimp only; rw [if_pos (by simp)]
    | nil =>
      have e2 : parsedI (fullR (some (((y, m, d, h, mi, s), z), []))) = madeI y m d h mi s z := rfl
      by_cases hg : Cal.right y m d h mi s
      · by_cases ho : 0 ≤ Cal.mom y m d h mi s - z ∧ Cal.mom y m d h mi s - z ≤ 4102444799
        · refine .inl ⟨Cal.mom y m d h mi s - z, ?_, ?_⟩
          · unfold readV; dsimp only; rw [if_neg (by simp), if_neg (by simpa using hg), if_pos ho]
          · rw [e2]; unfold madeI; rw [if_neg (fun h => h hg), if_pos ho]
        · refine .inr (.inl ⟨?_, ?_⟩)
          · unfold readV; dsimp only; rw [if_neg (by simp), if_neg (by simpa using hg), if_neg ho]
          · rw [e2]; unfold madeI; rw [if_neg (fun h => h hg), if_neg ho]
      · refine .inr (.inl ⟨?_, ?_⟩)
        · unfold readV; dsimp only; rw [if_neg (by simp), if_pos hg]
        · rw [e2]; unfold madeI; rw [if_pos hg]

end Go.Proofs.YtcjnpklmfcbofaaGreatDoor
end

/- Each moment's texts read back (plain). -/
set_option linter.unusedVariables false
set_option linter.unusedSimpArgs false
section
namespace Go.Proofs.YtcjnpklmfcbofaaGreatDoor

/-! ### The texts read back -/
theorem dig2 : ∀ n : Nat, n < 100 → (twoL (n : Int) [48]).length = 2 ∧ (twoL (n : Int) [48]).all isD = true ∧ valueL (twoL (n : Int) [48]) = n := by decide +kernel
theorem dig2s : ∀ n : Nat, n < 100 → 1 ≤ n → (twoL (n : Int) [32]).length = 2 ∧ (likeL (twoL (n : Int) [32]) [32, 48] || (likeL (twoL (n : Int) [32]) [48, 48] && (twoL (n : Int) [32]).headD 0 != 48)) = true ∧ valueL (if (twoL (n : Int) [32]).headD 0 = 32 then ((twoL (n : Int) [32])).drop 1 else twoL (n : Int) [32]) = n := by decide +kernel
theorem dig4 : ∀ n : Nat, n < 130 → (Lib.decDigits (1970 + n)).length = 4 ∧ (Lib.decDigits (1970 + n)).all isD = true ∧ valueL (Lib.decDigits (1970 + n)) = ((1970 + n : Nat) : Int) := by decide +kernel
theorem dig12 : ∀ n : Nat, n < 100 → ((Lib.decDigits n).length = 1 ∨ (Lib.decDigits n).length = 2) ∧ (Lib.decDigits n).all isD = true ∧ valueL (Lib.decDigits n) = n := by decide +kernel
theorem mon3 : ∀ n : Nat, n < 12 → (monthL ((n : Int) + 1)).length = 3 ∧ plL 12 0 monthsL (monthL ((n : Int) + 1)) = n ∧ (monthL ((n : Int) + 1)).all (fun c => !blankC c) = true := by decide +kernel
theorem wk3 : ∀ n : Nat, n < 7 → (weekL (n : Int)).length = 3 ∧ 0 ≤ plL 7 0 daysL (weekL (n : Int)) ∧ (weekL (n : Int)).all (fun c => !blankC c) = true := by decide +kernel

theorem like_all : ∀ (s : List UInt8), s.all isD = true → likeL s (List.replicate s.length 48) = true
  | [], _ => rfl
  | c :: s, h => by
    rw [List.all_cons, Bool.and_eq_true] at h
    show (likeB c 48 && likeL s (List.replicate s.length 48)) = true
    rw [likeB_dig, h.1, like_all s h.2]; rfl
theorem two_parts {n : Int} (h0 : 0 ≤ n) (h1 : n < 100) : ∃ a b, twoL n [48] = [a, b] ∧ likeL [a, b] [48, 48] = true ∧ valueL [a, b] = n := by
  obtain ⟨k, rfl⟩ : ∃ k : Nat, n = k := ⟨n.toNat, by omega⟩
  obtain ⟨h2, h3, h4⟩ := dig2 k (by omega)
  match ht : twoL (k : Int) [48], h2 with
  | [a, b], _ =>
    rw [ht] at h3 h4
    exact ⟨a, b, rfl, like_all [a, b] h3, h4⟩
theorem twos_parts {n : Int} (h0 : 1 ≤ n) (h1 : n < 100) : ∃ a b, twoL n [32] = [a, b] ∧ (likeL [a, b] [32, 48] || (likeL [a, b] [48, 48] && a != 48)) = true ∧ valueL (if a = 32 then [b] else [a, b]) = n := by
  obtain ⟨k, rfl⟩ : ∃ k : Nat, n = k := ⟨n.toNat, by omega⟩
  obtain ⟨h2, h3, h4⟩ := dig2s k (by omega) (by omega)
  match ht : twoL (k : Int) [32], h2 with
  | [a, b], _ =>
    rw [ht] at h3 h4
    exact ⟨a, b, rfl, h3, h4⟩
theorem year_parts {n : Int} (h0 : 1970 ≤ n) (h1 : n ≤ 2099) : ∃ a b c d, Lib.decDigits n.toNat = [a, b, c, d] ∧ likeL [a, b, c, d] [48, 48, 48, 48] = true ∧ valueL [a, b, c, d] = n := by
  obtain ⟨k, rfl⟩ : ∃ k : Nat, n = ((1970 + k : Nat) : Int) := ⟨(n - 1970).toNat, by omega⟩
  obtain ⟨h2, h3, h4⟩ := dig4 k (by omega)
  rw [show ((1970 + k : Nat) : Int).toNat = 1970 + k from rfl]
  match ht : Lib.decDigits (1970 + k), h2 with
  | [a, b, c, d], _ =>
    rw [ht] at h3 h4
    exact ⟨a, b, c, d, rfl, like_all [a, b, c, d] h3, h4⟩
theorem month_parts {m : Int} (h0 : 1 ≤ m) (h1 : m ≤ 12) : ∃ a b c, monthL m = [a, b, c] ∧ plL 12 0 monthsL [a, b, c] = m - 1 ∧ (blankC a = false ∧ blankC b = false ∧ blankC c = false) := by
  obtain ⟨k, rfl⟩ : ∃ k : Nat, m = (k : Int) + 1 := ⟨(m - 1).toNat, by omega⟩
  obtain ⟨h2, h3, h4⟩ := mon3 k (by omega)
  match ht : monthL ((k : Int) + 1), h2 with
  | [a, b, c], _ =>
    rw [ht] at h3 h4
    simp at h4
    exact ⟨a, b, c, rfl, by rw [h3]; omega, h4⟩
theorem week_parts {m : Int} (h0 : 0 ≤ m) (h1 : m ≤ 6) : ∃ a b c, weekL m = [a, b, c] ∧ 0 ≤ plL 7 0 daysL [a, b, c] ∧ (blankC a = false ∧ blankC b = false ∧ blankC c = false) := by
  obtain ⟨k, rfl⟩ : ∃ k : Nat, m = (k : Int) := ⟨m.toNat, by omega⟩
  obtain ⟨h2, h3, h4⟩ := wk3 k (by omega)
  match ht : weekL (k : Int), h2 with
  | [a, b, c], _ =>
    rw [ht] at h3 h4
    simp at h4
    exact ⟨a, b, c, rfl, h3, h4⟩
theorem zone_zero : zoneR [43, 48, 48, 48, 48] = some 0 := by rfl

theorem inter_back {y m d h mi s : Int} (y0 : 1970 ≤ y) (y1 : y ≤ 2099) (m0 : 1 ≤ m) (m1 : m ≤ 12) (d0 : 1 ≤ d) (d1 : d ≤ 31) (h0 : 0 ≤ h) (h1 : h ≤ 23) (i0 : 0 ≤ mi) (i1 : mi ≤ 59) (s0 : 0 ≤ s) (s1 : s ≤ 59) :
    refInternalC (interL y m d h mi s) = some (((y, m, d, h, mi, s), 0) : RuleD) := by
  obtain ⟨a0, a1, ed, ld, vd⟩ := twos_parts d0 (by omega : d < 100)
  obtain ⟨b0, b1, b2, em, pm, _⟩ := month_parts m0 m1
  obtain ⟨c0, c1, c2, c3, ey, ly, vy⟩ := year_parts y0 y1
  obtain ⟨h2, h3, eh, lh, vh⟩ := two_parts h0 (by omega : h < 100)
  obtain ⟨i2, i3, ei, li, vi⟩ := two_parts i0 (by omega : mi < 100)
  obtain ⟨s2, s3, es, ls, vs⟩ := two_parts s0 (by omega : s < 100)
  unfold interL clockL
  rw [ed, em, ey, eh, ei, es]
  unfold refInternalC
  have hT : likeL [45, c0, c1, c2, c3, 32, h2, h3, 58, i2, i3, 58, s2, s3, 32] patI = true := by
    rw [likeI]
    simp only [List.take_succ_cons, List.take_zero, List.drop_succ_cons, List.drop_zero]
    rw [ly, lh, li, ls]
    rfl
  simp only [List.cons_append, List.nil_append, List.length_cons, List.length_nil, List.take_succ_cons, List.take_zero, List.drop_succ_cons, List.drop_zero, List.headD_cons, List.getD_cons_succ, List.getD_cons_zero, Nat.reduceAdd, ne_eq, not_true_eq_false, if_false]
  rw [zone_zero, pm, hT]
  simp only [Option.bind_some]
  rw [if_pos (by refine ⟨ld, by omega, ?_, ?_⟩ <;> first | rfl | trivial), vy, vh, vi, vs, vd, show m - 1 + 1 = m by omega]
  rfl

theorem day_back {y m d : Int} (y0 : 1970 ≤ y) (y1 : y ≤ 2099) (m0 : 1 ≤ m) (m1 : m ≤ 12) (d0 : 1 ≤ d) (d1 : d ≤ 31) :
    refDayC (dayL y m d) = some (((y, m, d, 0, 0, 0), 0) : RuleD) := by
  obtain ⟨b0, b1, b2, em, pm, _⟩ := month_parts m0 m1
  obtain ⟨c0, c1, c2, c3, ey, ly, vy⟩ := year_parts y0 y1
  obtain ⟨k, rfl⟩ : ∃ k : Nat, d = (k : Int) := ⟨d.toNat, by omega⟩
  obtain ⟨hl, hd, hv⟩ := dig12 k (by omega)
  unfold dayL
  rw [em, ey, show ((k : Int)).toNat = k from rfl]
  have hY : likeL [45, c0, c1, c2, c3] [45, 48, 48, 48, 48] = true := by
    rw [like5]
    simp only [List.take_succ_cons, List.take_zero, List.drop_succ_cons, List.drop_zero]
    rw [ly]; rfl
  rcases hl with hl | hl
  · match ht : Lib.decDigits k, hl with
    | [e0], _ =>
      rw [ht] at hd hv
      have h1 := like_all [e0] hd
      have h1' : likeL [e0] [48] = true := h1
      unfold refDayC
      simp only [List.cons_append, List.nil_append, List.length_cons, List.length_nil, Nat.reduceAdd, Nat.reduceEqDiff, if_false, List.take_succ_cons, List.take_zero, List.drop_succ_cons, List.drop_zero, List.getD_cons_succ, List.getD_cons_zero, ne_eq, not_true_eq_false, false_or]
      rw [if_neg (by rw [h1', pm, hY]; rintro (h | h | h); cases h; omega; cases h), pm, vy, hv, show m - 1 + 1 = m by omega]
      rfl
  · match ht : Lib.decDigits k, hl with
    | [e0, e1], _ =>
      rw [ht] at hd hv
      have h1 := like_all [e0, e1] hd
      have h1' : likeL [e0, e1] [48, 48] = true := h1
      unfold refDayC
      simp only [List.cons_append, List.nil_append, List.length_cons, List.length_nil, Nat.reduceAdd, if_true, List.take_succ_cons, List.take_zero, List.drop_succ_cons, List.drop_zero, List.getD_cons_succ, List.getD_cons_zero, ne_eq, not_true_eq_false, false_or]
      rw [if_neg (by rw [h1', pm, hY]; rintro (h | h | h); cases h; omega; cases h), pm, vy, hv, show m - 1 + 1 = m by omega]
      rfl

theorem isD_blank {c : UInt8} (h : isD c = true) : blankC c = false := by
  have h2 := isD_ne h
  unfold blankC
  rw [Bool.or_eq_false_iff, beq_eq_false_iff_ne, beq_eq_false_iff_ne]
  constructor
  · rintro rfl; exact absurd h2 (by decide)
  · rintro rfl; exact absurd h2 (by decide)
theorem like_digs {s : List UInt8} {n : Nat} (h : likeL s (List.replicate n 48) = true) : ∀ c ∈ s, blankC c = false := by
  induction n generalizing s with
  | zero => cases s with
    | nil => simp
    | cons c s => cases h
  | succ n ih => cases s with
    | nil => cases h
    | cons c s =>
      have h' : (likeB c 48 && likeL s (List.replicate n 48)) = true := h
      rw [Bool.and_eq_true, likeB_dig] at h'
      intro d hd
      rcases List.mem_cons.1 hd with rfl | hd
      · exact isD_blank h'.1
      · exact ih h'.2 d hd
theorem words_word (w r : List UInt8) (hw : ∀ c ∈ w, blankC c = false) (h0 : w ≠ []) : wordsGo [] (w ++ 32 :: r) = w :: wordsGo [] r := by
  rw [wordsGo_run w [] _ hw, List.nil_append]
  show (if blankC 32 = true then _ else _) = _
  rw [if_pos (by rfl), if_neg h0]
theorem words_last (w : List UInt8) (hw : ∀ c ∈ w, blankC c = false) (h0 : w ≠ []) : wordsGo [] w = [w] := by
  have := wordsGo_run w [] [] hw
  rw [List.append_nil, List.nil_append] at this
  rw [this, wordsGo_nil h0]

theorem mail_back {y m d h mi s wk : Int} (y0 : 1970 ≤ y) (y1 : y ≤ 2099) (m0 : 1 ≤ m) (m1 : m ≤ 12) (d0 : 1 ≤ d) (d1 : d ≤ 31) (h0 : 0 ≤ h) (h1 : h ≤ 23) (i0 : 0 ≤ mi) (i1 : mi ≤ 59) (s0 : 0 ≤ s) (s1 : s ≤ 59) (k0 : 0 ≤ wk) (k1 : wk ≤ 6) :
    refMailC (wordsGo [] (mailL y m d h mi s wk)) = some (((y, m, d, h, mi, s), 0) : RuleD) := by
  obtain ⟨a0, a1, ed, ld, vd⟩ := two_parts (show 0 ≤ d by omega) (by omega : d < 100)
  obtain ⟨b0, b1, b2, em, pm, nb0, nb1, nb2⟩ := month_parts m0 m1
  obtain ⟨c0, c1, c2, c3, ey, ly, vy⟩ := year_parts y0 y1
  obtain ⟨h2, h3, eh, lh, vh⟩ := two_parts h0 (by omega : h < 100)
  obtain ⟨i2, i3, ei, li, vi⟩ := two_parts i0 (by omega : mi < 100)
  obtain ⟨s2, s3, es, ls, vs⟩ := two_parts s0 (by omega : s < 100)
  obtain ⟨w0, w1, w2, ew, pw, nw0, nw1, nw2⟩ := week_parts k0 k1
  have hb : mailL y m d h mi s wk = [w0, w1, w2, 44] ++ 32 :: ([a0, a1] ++ 32 :: ([b0, b1, b2] ++ 32 :: ([c0, c1, c2, c3] ++ 32 :: ([h2, h3, 58, i2, i3, 58, s2, s3] ++ 32 :: [43, 48, 48, 48, 48])))) := by
    unfold mailL clockL
    rw [ed, em, ey, eh, ei, es, ew]
    rfl
  have gd := like_digs (n := 2) ld
  have gy := like_digs (n := 4) ly
  have gh := like_digs (n := 2) lh
  have gi := like_digs (n := 2) li
  have gs := like_digs (n := 2) ls
  have g1 : ∀ c ∈ [w0, w1, w2, (44 : UInt8)], blankC c = false := by
    intro c hc; simp at hc; rcases hc with rfl | rfl | rfl | rfl
    · exact nw0
    · exact nw1
    · exact nw2
    · rfl
  have g2 : ∀ c ∈ [b0, b1, b2], blankC c = false := by
    intro c hc; simp at hc; rcases hc with rfl | rfl | rfl
    · exact nb0
    · exact nb1
    · exact nb2
  have g3 : ∀ c ∈ [h2, h3, (58 : UInt8), i2, i3, 58, s2, s3], blankC c = false := by
    intro c hc; simp at hc; rcases hc with rfl | rfl | rfl | rfl | rfl | rfl | rfl | rfl
    · exact gh _ (by simp)
    · exact gh _ (by simp)
    · rfl
    · exact gi _ (by simp)
    · exact gi _ (by simp)
    · rfl
    · exact gs _ (by simp)
    · exact gs _ (by simp)
  rw [hb, words_word _ _ g1 (by simp), words_word _ _ gd (by simp), words_word _ _ g2 (by simp), words_word _ _ gy (by simp), words_word _ _ g3 (by simp), words_last _ (by decide) (by simp), refMailC_cons]
  simp only [List.take_succ_cons, List.take_zero, List.drop_succ_cons, List.drop_zero]
  rw [if_pos pw, if_neg (by simp)]
  unfold commaC
  simp only [List.headD_cons, List.drop_succ_cons, List.drop_zero, if_true]
  rw [refTailC_5]
  have hp8 : likeL [h2, h3, 58, i2, i3, 58, s2, s3] pat8 = true := by
    rw [show pat8 = [48, 48] ++ ([58] ++ ([48, 48] ++ ([58] ++ [48, 48]))) from rfl, likeL_append, likeL_append, likeL_append, likeL_append]
    simp only [List.length_cons, List.length_nil, List.take_succ_cons, List.take_zero, List.drop_succ_cons, List.drop_zero, Nat.zero_add]
    rw [lh, li, ls]; rfl
  rw [if_pos ⟨.inr ld, by rw [pm]; omega, ly, .inr hp8⟩, zone_zero]
  simp only [Option.bind_some, List.take_succ_cons, List.take_zero, List.drop_succ_cons, List.drop_zero, List.length_cons, List.length_nil, Nat.reduceAdd, if_true]
  rw [pm, vy, vd, vh, vi, vs, show m - 1 + 1 = m by omega]

theorem mom_of_civ7 {t y m d h mi s wk : Int} (h0 : 0 ≤ t) (c : Cal.civ7 t y m d h mi s wk) : Cal.right y m d h mi s ∧ Cal.mom y m d h mi s = t ∧ Cal.right y m d 0 0 0 ∧ Cal.mom y m d 0 0 0 = t - t % 86400 := by
  obtain ⟨⟨y0, y1, m0, m1, d0, d1, hd⟩, e1, e2, e3, e4⟩ := c
  unfold Cal.right Cal.mom
  subst e1 e2 e3
  rw [hd]
  refine ⟨⟨⟨y0, y1⟩, ⟨m0, m1⟩, ⟨d0, d1⟩, ?_, ?_, ?_⟩, ?_, ⟨⟨y0, y1⟩, ⟨m0, m1⟩, ⟨d0, d1⟩, by omega, by omega, by omega⟩, ?_⟩ <;> omega

/-- a text that reads as a right date, within the range -/
theorem read_good {R : Option (RuleD × List UInt8)} {y m d h mi s : Int} (hf : fullR R = some (((y, m, d, h, mi, s), 0) : RuleD)) (hr : Cal.right y m d h mi s) (h0 : 0 ≤ Cal.mom y m d h mi s) (h1 : Cal.mom y m d h mi s ≤ 4102444799) : readV R = .good (Cal.mom y m d h mi s) := by
  have hp : parsedI (fullR R) = (Cal.mom y m d h mi s, 0) := by
    rw [hf]
    show madeI y m d h mi s 0 = _
    unfold madeI
    rw [if_neg (fun h => h hr), Int.sub_zero, if_pos ⟨h0, h1⟩]
  rcases read_same R with ⟨t, e1, e2⟩ | ⟨_, e2⟩ | ⟨_, e2⟩
  · rw [e1]
    rw [hp] at e2
    rw [(Prod.mk.inj e2).1]
  · rw [hp] at e2
    exact absurd (Prod.mk.inj e2).2 (by decide)
  · rw [hp] at e2
    exact absurd (Prod.mk.inj e2).2 (by decide)

end Go.Proofs.YtcjnpklmfcbofaaGreatDoor
end
