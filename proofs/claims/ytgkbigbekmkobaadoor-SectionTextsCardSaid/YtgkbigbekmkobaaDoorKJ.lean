/- section's reference (plain): its loose reading of a right section's text is the section; so both read the same. -/
import Derived.Test.YtgkbigbekmkobaaDoorKI
set_option linter.unusedVariables false
set_option linter.unusedSimpArgs false
namespace Go.Proofs.YtgkbigbekmkobaaDoor

/-- a number, of no more digits than make 10000 -/
def numGo : List UInt8 → Int → Int × List UInt8
  | [], n => (n, [])
  | c :: t, n => if digB c = true ∧ n < 10000 then numGo t (10 * n + ((c.toNat : Int) - 48)) else (n, c :: t)
/-- behind a number: a dot is passed over -/
def skipD : List UInt8 → List UInt8
  | [] => []
  | c :: t => if c = 46 then t else c :: t
def pathGo : Nat → List UInt8 → List Int × List UInt8
  | 0, s => ([], s)
  | _ + 1, [] => ([], [])
  | f + 1, c :: t => if digB c = true then ((numGo (c :: t) 0).1 :: (pathGo f (skipD (numGo (c :: t) 0).2)).1, (pathGo f (skipD (numGo (c :: t) 0).2)).2) else ([], c :: t)
theorem skip_cons (c : UInt8) (t : List UInt8) : skipD (c :: t) = if c = 46 then t else c :: t := rfl
theorem pathGo_cons (f : Nat) (c : UInt8) (t : List UInt8) : pathGo (f + 1) (c :: t) = if digB c = true then ((numGo (c :: t) 0).1 :: (pathGo f (skipD (numGo (c :: t) 0).2)).1, (pathGo f (skipD (numGo (c :: t) 0).2)).2) else ([], c :: t) := rfl
def namesGo : List UInt8 → List UInt8 → List (List UInt8)
  | [], _ => []
  | c :: t, cur => if c = 32 ∨ c = 41 then cur :: namesGo t [] else namesGo t (cur ++ [c])
def notBl (c : UInt8) : Bool := !(c == 32)
/-- the names' text -/
def namesR (r : List UInt8) : List (List UInt8) := if 2 < r.length ∧ r[1]? = some 40 then namesGo (r.drop 2) [] else []
def looseL (s : List UInt8) : List Int × List UInt8 × List (List UInt8) :=
  ((pathGo (s.length + 1) s).1, upL ((pathGo (s.length + 1) s).2.takeWhile notBl), namesR ((pathGo (s.length + 1) s).2.dropWhile notBl))
/-- the reference's Parse -/
def refParseL (s : List UInt8) : Option (List Int × List UInt8 × List (List UInt8)) :=
  if rightL (looseL s).1 (looseL s).2.1 (looseL s).2.2 = true ∧ textL (looseL s).1 (looseL s).2.1 (looseL s).2.2 = upTo s then some (looseL s) else none

theorem numGo_up : ∀ (s : List UInt8) (n : Int), numGo (upTo s) n = ((numGo s n).1, upTo (numGo s n).2)
  | [], n => rfl
  | c :: t, n => by
    by_cases h : digB c = true
    · have h32 : ¬ c = 32 := fun e => by rw [e, dig_32] at h; exact absurd h (by decide)
      have eu := up_dig h
      have e : upTo (c :: t) = c :: upTo t := by rw [upTo, if_neg h32, eu]
      rw [e]
      unfold numGo
      by_cases h2 : n < 10000
      · rw [if_pos ⟨h, h2⟩, if_pos ⟨h, h2⟩, numGo_up t]
      · rw [if_neg (fun k => h2 k.2), if_neg (fun k => h2 k.2), e]
    · have h1 : digB (upB c) ≠ true := by rw [dig_up]; exact h
      have e : numGo (c :: t) n = (n, c :: t) := by unfold numGo; rw [if_neg (fun k => h k.1)]
      rw [e]
      by_cases h32 : c = 32
      · have e2 : upTo (c :: t) = c :: t := by rw [upTo, if_pos h32]
        rw [e2, e]
      · have e2 : upTo (c :: t) = upB c :: upTo t := by rw [upTo, if_neg h32]
        simp only [e2]
        unfold numGo
        rw [if_neg (fun k => h1 k.1)]
theorem skip_up : ∀ s : List UInt8, skipD (upTo s) = upTo (skipD s)
  | [] => rfl
  | c :: t => by
    by_cases h : c = 32
    · have e : upTo (c :: t) = c :: t := by rw [upTo, if_pos h]
      have e2 : skipD (c :: t) = c :: t := by rw [skip_cons, if_neg (by rw [h]; decide)]
      rw [e, e2, e]
    · have e : upTo (c :: t) = upB c :: upTo t := by rw [upTo, if_neg h]
      rw [e, skip_cons, skip_cons]
      by_cases h2 : c = 46
      · rw [if_pos h2, if_pos ((up46 c).2 h2)]
      · rw [if_neg h2, if_neg (fun k => h2 ((up46 c).1 k)), e]
theorem path_up : ∀ (f : Nat) (s : List UInt8), pathGo f (upTo s) = ((pathGo f s).1, upTo (pathGo f s).2)
  | 0, s => rfl
  | f + 1, [] => rfl
  | f + 1, c :: t => by
    by_cases h : digB c = true
    · have h32 : ¬ c = 32 := fun e => by rw [e, dig_32] at h; exact absurd h (by decide)
      have e : upTo (c :: t) = c :: upTo t := by rw [upTo, if_neg h32, up_dig h]
      have k := numGo_up (c :: t) 0
      rw [e] at k ⊢
      rw [pathGo_cons, pathGo_cons, if_pos h, if_pos h, k]
      simp only
      rw [skip_up, path_up f]
    · have h1 : ¬ digB (upB c) = true := by rw [dig_up]; exact h
      have e0 : pathGo (f + 1) (c :: t) = ([], c :: t) := by rw [pathGo_cons, if_neg h]
      rw [e0]
      by_cases h32 : c = 32
      · have e : upTo (c :: t) = c :: t := by rw [upTo, if_pos h32]
        simp only [e, e0]
      · have e : upTo (c :: t) = upB c :: upTo t := by rw [upTo, if_neg h32]
        simp only [e]
        rw [pathGo_cons, if_neg h1]
theorem take_up : ∀ r : List UInt8, (upTo r).takeWhile notBl = upL (r.takeWhile notBl) ∧ (upTo r).dropWhile notBl = r.dropWhile notBl
  | [] => ⟨rfl, rfl⟩
  | c :: t => by
    by_cases h : c = 32
    · subst h
      have e : upTo (32 :: t) = 32 :: t := by simp [upTo]
      have e2 : notBl 32 = false := by decide
      rw [e, List.takeWhile_cons, e2]
      exact ⟨rfl, rfl⟩
    · have e : upTo (c :: t) = upB c :: upTo t := by rw [upTo, if_neg h]
      have e2 : notBl c = true := by simp [notBl, h]
      have e3 : notBl (upB c) = true := by simp [notBl, up32, h]
      have ih := take_up t
      rw [e, List.takeWhile_cons, List.takeWhile_cons, List.dropWhile_cons, List.dropWhile_cons, e2, e3, if_pos rfl, if_pos rfl, if_pos rfl, if_pos rfl, ih.1, ih.2]
      exact ⟨rfl, rfl⟩
theorem upL_upL (a : List UInt8) : upL (upL a) = upL a := by
  unfold upL
  rw [List.map_map]
  exact List.map_congr_left fun x _ => up_up x
theorem loose_up (s : List UInt8) : looseL (upTo s) = looseL s := by
  unfold looseL
  rw [upTo_len, path_up]
  simp only
  rw [(take_up _).1, (take_up _).2, upL_upL]

/-- what does not begin with a digit -/
def noDig (r : List UInt8) : Prop := ∀ c t, r = c :: t → digB c = false
theorem numGo_stop {r : List UInt8} (h : noDig r) (n : Int) : numGo r n = (n, r) := by
  cases r with
  | nil => rfl
  | cons c t => unfold numGo; rw [h c t rfl, if_neg (by simp)]
theorem numGo_one (c : UInt8) (t : List UInt8) (n : Int) (h : digB c = true) (hn : n < 10000) : numGo (c :: t) n = numGo t (10 * n + ((c.toNat : Int) - 48)) := by
  rw [numGo, if_pos ⟨h, hn⟩]
theorem numGo_digits {n : Int} (h : 1 ≤ n ∧ n ≤ 999) (r : List UInt8) (hr : noDig r) : numGo (digitsL n.toNat ++ r) 0 = (n, r) := by
  obtain ⟨k1, k2, k3⟩ := digits_ok h
  have k4 := num_nz (d := digitsL n.toNat) (by rw [k1]; omega)
  have hv : valI (digitsL n.toNat) = n := k4.2.2.2.2.symm.trans k1
  have hl := k4.2.2.1
  rw [List.all_eq_true] at k2
  generalize digitsL n.toNat = d at k2 k3 hv hl
  match d, k2, k3, hv, hl with
  | [a], k2, _, hv, _ =>
    have ha := k2 a (by simp)
    rw [List.cons_append, List.nil_append, numGo_one _ _ _ ha (by omega), numGo_stop hr]
    rw [← hv]; simp [valI]
  | [a, b], k2, _, hv, _ =>
    have ha := k2 a (by simp)
    have hb := k2 b (by simp)
    have ia := digB_iff.1 ha
    rw [List.cons_append, List.cons_append, List.nil_append, numGo_one _ _ _ ha (by omega), numGo_one _ _ _ hb (by omega), numGo_stop hr]
    rw [← hv]; simp [valI]
  | [a, b, c], k2, _, hv, _ =>
    have ha := k2 a (by simp)
    have hb := k2 b (by simp)
    have hc := k2 c (by simp)
    have ia := digB_iff.1 ha
    have ib := digB_iff.1 hb
    rw [List.cons_append, List.cons_append, List.cons_append, List.nil_append, numGo_one _ _ _ ha (by omega), numGo_one _ _ _ hb (by omega), numGo_one _ _ _ hc (by omega), numGo_stop hr]
    rw [← hv]; simp [valI]
  | _ :: _ :: _ :: _ :: _, _, _, _, hl => simp at hl
theorem pathGo_stop {r : List UInt8} (h : noDig r) (f : Nat) : pathGo f r = ([], r) := by
  cases f with
  | zero => rfl
  | succ f =>
    cases r with
    | nil => rfl
    | cons c t => rw [pathGo_cons, if_neg (by rw [h c t rfl]; simp)]
theorem pathGo_step (f : Nat) {n : Int} (h : 1 ≤ n ∧ n ≤ 999) (r : List UInt8) (hr : noDig r) : pathGo (f + 1) (digitsL n.toNat ++ r) = (n :: (pathGo f (skipD r)).1, (pathGo f (skipD r)).2) := by
  obtain ⟨_, k2, k3⟩ := digits_ok h
  have kn := numGo_digits h r hr
  rw [List.all_eq_true] at k2
  obtain ⟨c, t, hd⟩ := List.exists_cons_of_ne_nil k3
  rw [hd] at kn k2 ⊢
  rw [List.cons_append] at kn ⊢
  rw [pathGo_cons, if_pos (k2 c (by simp)), kn]
theorem pathGo_dots : ∀ (ps : List Int) (f : Nat) (r : List UInt8), (∀ n ∈ ps, 1 ≤ n ∧ n ≤ 999) → noDig r → pathGo (f + ps.length) (dots ps ++ r) = (ps, r)
  | [], f, r, _, hr => pathGo_stop hr f
  | n :: ps, f, r, h, hr => by
    have e : dots (n :: ps) ++ r = digitsL n.toNat ++ 46 :: (dots ps ++ r) := by simp [dots]
    have e2 : skipD (46 :: (dots ps ++ r)) = dots ps ++ r := by simp [skipD]
    rw [e, List.length_cons, ← Nat.add_assoc, pathGo_step _ (h n (by simp)) _ (fun c t e => by cases e; exact dig_46), e2, pathGo_dots ps f r (fun x hx => h x (List.mem_cons_of_mem _ hx)) hr]
theorem pathGo_path : ∀ (ps : List Int) (n : Int) (f : Nat), (∀ x ∈ n :: ps, 1 ≤ x ∧ x ≤ 999) → pathGo (f + ps.length + 1) (pathT 0 (n :: ps)) = (n :: ps, [])
  | [], n, f, h => by
    have k := pathGo_step f (h n (by simp)) [] (fun c t e => by cases e)
    rw [path_one]
    rw [List.append_nil] at k
    show pathGo (f + 1) _ = _
    rw [k, show skipD [] = [] from rfl, pathGo_stop (fun c t e => by cases e) f]
  | m :: ps, n, f, h => by
    have e2 : skipD (46 :: pathT 0 (m :: ps)) = pathT 0 (m :: ps) := by simp [skipD]
    rw [path_cc, List.length_cons, ← Nat.add_assoc, pathGo_step _ (h n (by simp)) _ (fun c t e => by cases e; exact dig_46), e2, pathGo_path ps m f (fun x hx => h x (List.mem_cons_of_mem _ hx))]
theorem namesGo_free : ∀ (n t cur : List UInt8), (32 : UInt8) ∉ n → (41 : UInt8) ∉ n → namesGo (n ++ t) cur = namesGo t (cur ++ n)
  | [], t, cur, _, _ => by simp
  | c :: n, t, cur, h1, h2 => by
    have a1 : ¬ c = 32 := fun e => h1 (e ▸ List.mem_cons_self)
    have a2 : ¬ c = 41 := fun e => h2 (e ▸ List.mem_cons_self)
    rw [List.cons_append, namesGo, if_neg (fun h => h.elim a1 a2), namesGo_free n t _ (fun e => h1 (List.mem_cons_of_mem _ e)) (fun e => h2 (List.mem_cons_of_mem _ e))]
    simp
theorem namesGo_join : ∀ (ns : List (List UInt8)) (n : List UInt8), (∀ x ∈ n :: ns, (32 : UInt8) ∉ x ∧ (41 : UInt8) ∉ x) → namesGo (Lib.join (n :: ns) [32] ++ [41]) [] = n :: ns
  | [], n, h => by
    rw [Lib.join_one, namesGo_free _ _ _ (h n (by simp)).1 (h n (by simp)).2]
    simp [namesGo]
  | m :: ns, n, h => by
    rw [join_cc, List.append_assoc, namesGo_free _ _ _ (h n (by simp)).1 (h n (by simp)).2, List.cons_append, namesGo, if_pos (.inl rfl), namesGo_join ns m (fun x hx => h x (List.mem_cons_of_mem _ hx))]
    simp
theorem take_free : ∀ (a b : List UInt8), (32 : UInt8) ∉ a → (a ++ b).takeWhile notBl = a ++ b.takeWhile notBl ∧ (a ++ b).dropWhile notBl = b.dropWhile notBl
  | [], b, _ => ⟨rfl, rfl⟩
  | c :: t, b, h => by
    have h1 : ¬ c = 32 := fun e => h (e ▸ List.mem_cons_self)
    have e2 : notBl c = true := by simp [notBl, h1]
    have ih := take_free t b (fun e => h (List.mem_cons_of_mem _ e))
    rw [List.cons_append, List.takeWhile_cons, List.dropWhile_cons, e2, if_pos rfl, if_pos rfl, ih.1, ih.2]
    exact ⟨rfl, rfl⟩
/-- the loose reading of a right section's text -/
theorem loose_text {ps : List Int} {wh : List UInt8} {ns : List (List UInt8)} (h : rightL ps wh ns = true) : looseL (textL ps wh ns) = (ps, wh, ns) := by
  obtain ⟨_, _, hp, hw, hn, hnw⟩ := right_parts h
  have nb32 : notBl 32 = false := by decide
  unfold looseL
  rcases hw with rfl | hw
  · have e : ns = [] := by
      by_cases e : ns = []
      · exact e
      · obtain ⟨_, _, h, _⟩ := (wh_facts (hnw e)).2.2
        exact absurd h (by simp)
    subst e
    rw [text_none]
    cases ps with
    | nil => rfl
    | cons n ps =>
      have hl : (pathT 0 (n :: ps)).length + 1 = ((pathT 0 (n :: ps)).length - ps.length) + ps.length + 1 := by
        have := dots_len (n :: ps)
        rw [dots_path] at this
        simp at this
        omega
      rw [hl, pathGo_path ps n _ hp]
      rfl
  · obtain ⟨k1, k2, c, t, hc, k3, k4⟩ := wh_facts hw
    have hw0 : wh ≠ [] := by rw [hc]; simp
    rw [text_some ps wh ns hp hw0]
    have hr : endL wh ns = c :: (t ++ (if ns = [] then [] else 32 :: 40 :: (Lib.join ns [32] ++ [41]))) := by
      unfold endL; rw [hc]; rfl
    have hnd : noDig (endL wh ns) := fun c' t' e => by
      rw [hr] at e
      cases e
      exact k4
    have hl : (dots ps ++ endL wh ns).length + 1 = ((dots ps ++ endL wh ns).length + 1 - ps.length) + ps.length := by
      have := dots_len ps
      simp only [List.length_append]
      omega
    rw [hl, pathGo_dots ps _ _ hp hnd]
    simp only
    have tf := take_free wh (if ns = [] then [] else 32 :: 40 :: (Lib.join ns [32] ++ [41])) k1
    have e1 : (endL wh ns).takeWhile notBl = wh := by
      unfold endL
      rw [tf.1]
      split <;> simp [nb32]
    have e2 : (endL wh ns).dropWhile notBl = if ns = [] then [] else 32 :: 40 :: (Lib.join ns [32] ++ [41]) := by
      unfold endL
      rw [tf.2]
      split
      · rfl
      · rw [List.dropWhile_cons, nb32]; rfl
    rw [e1, e2, k2]
    by_cases e : ns = []
    · subst e; rfl
    · rw [if_neg e]
      cases ns with
      | nil => exact absurd rfl e
      | cons n ns =>
        have j := namesGo_join ns n (fun x hx => ⟨(name_free (hn x hx)).1, (name_free (hn x hx)).2.1⟩)
        unfold namesR
        rw [if_pos ⟨by simp, rfl⟩, List.drop_succ_cons, List.drop_succ_cons, List.drop_zero, j]
/-- both read the same -/
theorem parse_same (s : List UInt8) : refParseL s = readL s := by
  unfold refParseL
  by_cases h : rightL (looseL s).1 (looseL s).2.1 (looseL s).2.2 = true ∧ textL (looseL s).1 (looseL s).2.1 (looseL s).2.2 = upTo s
  · rw [if_pos h]
    have k := read_text h.1
    rw [h.2, read_up] at k
    exact k.symm
  · rw [if_neg h]
    cases hr : readL s with
    | none => rfl
    | some x =>
      obtain ⟨ps, wh, ns⟩ := x
      obtain ⟨k1, k2⟩ := read_back hr
      have e : looseL s = (ps, wh, ns) := by rw [← loose_up, ← k2]; exact loose_text k1
      rw [e] at h
      exact absurd ⟨k1, k2⟩ h

/-- the beginning of a text of a path: it holds no blank and no small letter -/
theorem numGo_pre : ∀ (s : List UInt8) (n : Int), ∃ a, s = a ++ (numGo s n).2 ∧ a.all digB = true
  | [], n => ⟨[], rfl, rfl⟩
  | c :: t, n => by
    by_cases h : digB c = true ∧ n < 10000
    · obtain ⟨a, ha, hd⟩ := numGo_pre t (10 * n + ((c.toNat : Int) - 48))
      refine ⟨c :: a, ?_, by rw [List.all_cons, h.1, hd]; rfl⟩
      rw [numGo, if_pos h, List.cons_append, ← ha]
    · refine ⟨[], ?_, rfl⟩
      rw [numGo, if_neg h]; rfl
theorem skip_pre (s : List UInt8) : ∃ a, s = a ++ skipD s ∧ (a = [] ∨ a = [46]) := by
  cases s with
  | nil => exact ⟨[], rfl, .inl rfl⟩
  | cons c t =>
    rw [skip_cons]
    by_cases h : c = 46
    · rw [if_pos h]; exact ⟨[46], by rw [h]; rfl, .inr rfl⟩
    · rw [if_neg h]; exact ⟨[], rfl, .inl rfl⟩
theorem path_pre : ∀ (f : Nat) (s : List UInt8), ∃ a, s = a ++ (pathGo f s).2 ∧ (32 : UInt8) ∉ a ∧ upL a = a
  | 0, s => ⟨[], rfl, by simp, rfl⟩
  | f + 1, [] => ⟨[], rfl, by simp, rfl⟩
  | f + 1, c :: t => by
    by_cases h : digB c = true
    · obtain ⟨a, ha, hd⟩ := numGo_pre (c :: t) 0
      obtain ⟨b, hb, hd2⟩ := skip_pre (numGo (c :: t) 0).2
      obtain ⟨d, hd3, hd4, hd5⟩ := path_pre f (skipD (numGo (c :: t) 0).2)
      have p := digs_plain hd
      refine ⟨a ++ (b ++ d), ?_, ?_, ?_⟩
      · have e : (pathGo (f + 1) (c :: t)).2 = (pathGo f (skipD (numGo (c :: t) 0).2)).2 := by rw [pathGo_cons, if_pos h]
        rw [e, List.append_assoc, List.append_assoc, ← hd3, ← hb, ← ha]
      · simp only [List.mem_append, not_or]
        refine ⟨p.1, ?_, hd4⟩
        rcases hd2 with rfl | rfl <;> decide
      · have e1 := p.2.2
        unfold upL at e1 hd5 ⊢
        rw [List.map_append, List.map_append, e1, hd5]
        have e46 : upB 46 = 46 := (up46 46).2 rfl
        rcases hd2 with rfl | rfl
        · rfl
        · rw [List.map_cons, e46]; rfl
    · exact ⟨[], by rw [pathGo_cons, if_neg h]; rfl, by simp, rfl⟩

end Go.Proofs.YtgkbigbekmkobaaDoor
