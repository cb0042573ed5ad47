/- section (plain): which texts are read: just the texts of right sections. -/
import Derived.Test.YtgkbigbekmkobaaDoorKH
import Derived.Lib.Join
set_option linter.unusedVariables false
set_option linter.unusedSimpArgs false
namespace Go.Proofs.YtgkbigbekmkobaaDoor

set_option maxRecDepth 100000 in
theorem digits_fin : ∀ n : Fin 1000, n.val ≠ 0 → numL (digitsL n.val) = n.val ∧ (digitsL n.val).all digB = true ∧ digitsL n.val ≠ [] := by decide +kernel
theorem digits_ok {n : Int} (h : 1 ≤ n ∧ n ≤ 999) : numL (digitsL n.toNat) = n ∧ (digitsL n.toNat).all digB = true ∧ digitsL n.toNat ≠ [] := by
  have k := digits_fin ⟨n.toNat, by omega⟩ (by show n.toNat ≠ 0; omega)
  refine ⟨k.1.trans ?_, k.2⟩
  show ((n.toNat : Nat) : Int) = n
  omega
theorem dig_of {c : UInt8} (h : digB c = true) : ∃ x : Fin 10, c = UInt8.ofNat (48 + x.val) := by
  rw [digB_iff] at h
  refine ⟨⟨c.toNat - 48, by omega⟩, ?_⟩
  show c = UInt8.ofNat (48 + (c.toNat - 48))
  rw [show 48 + (c.toNat - 48) = c.toNat by omega]
  simp
set_option maxRecDepth 100000 in
theorem back_fin1 : ∀ x : Fin 10, x ≠ 0 → digitsL (valI [UInt8.ofNat (48 + x.val)]).toNat = [UInt8.ofNat (48 + x.val)] := by decide +kernel
set_option maxRecDepth 100000 in
theorem back_fin2 : ∀ x y : Fin 10, x ≠ 0 → digitsL (valI [UInt8.ofNat (48 + x.val), UInt8.ofNat (48 + y.val)]).toNat = [UInt8.ofNat (48 + x.val), UInt8.ofNat (48 + y.val)] := by decide +kernel
set_option maxRecDepth 100000 in
theorem back_fin3 : ∀ x y z : Fin 10, x ≠ 0 → digitsL (valI [UInt8.ofNat (48 + x.val), UInt8.ofNat (48 + y.val), UInt8.ofNat (48 + z.val)]).toNat = [UInt8.ofNat (48 + x.val), UInt8.ofNat (48 + y.val), UInt8.ofNat (48 + z.val)] := by decide +kernel
theorem num_digits {d : List UInt8} (h : numL d ≠ 0) : digitsL (numL d).toNat = d := by
  obtain ⟨h1, h2, h3, h4, h5⟩ := num_nz h
  rw [h5]
  rw [List.all_eq_true] at h4
  match d, h1, h2, h3, h4 with
  | [a], _, h2, _, h4 =>
    obtain ⟨x, rfl⟩ := dig_of (h4 a (by simp))
    exact back_fin1 x (fun e => h2 (by rw [e]; rfl))
  | [a, b], _, h2, _, h4 =>
    obtain ⟨x, rfl⟩ := dig_of (h4 a (by simp))
    obtain ⟨y, rfl⟩ := dig_of (h4 b (by simp))
    exact back_fin2 x y (fun e => h2 (by rw [e]; rfl))
  | [a, b, c], _, h2, _, h4 =>
    obtain ⟨x, rfl⟩ := dig_of (h4 a (by simp))
    obtain ⟨y, rfl⟩ := dig_of (h4 b (by simp))
    obtain ⟨z, rfl⟩ := dig_of (h4 c (by simp))
    exact back_fin3 x y z (fun e => h2 (by rw [e]; rfl))
  | _ :: _ :: _ :: _ :: _, _, _, h3, _ => simp at h3

theorem index_more : ∀ (a b : List UInt8), (32 : UInt8) ∉ a → Lib.index (a ++ 32 :: b) [32] = a.length
  | [], b, _ => by simp [Lib.index]
  | c :: t, b, h => by
    have h1 : ¬ c = 32 := fun e => h (e ▸ List.mem_cons_self)
    have h2 : (32 : UInt8) ∉ t := fun e => h (List.mem_cons_of_mem _ e)
    rw [List.cons_append, Lib.index, index_more t b h2, if_neg (by simp only [List.isPrefixOf_cons_cons, List.isPrefixOf_nil_left, Bool.and_true, beq_iff_eq]; exact fun e => h1 e.symm), if_neg (by rw [beq_iff_eq]; omega)]
    simp
theorem split_more (a b : List UInt8) (h : (32 : UInt8) ∉ a) : Lib.split (a ++ 32 :: b) [32] = a :: Lib.split b [32] := by
  unfold Lib.split
  rw [Lib.count_one, Lib.count_one, List.count_append, List.count_eq_zero.2 h, List.count_cons_self, Nat.zero_add, Lib.splitK, index_more a b h, if_neg (by rw [beq_iff_eq]; omega)]
  simp
theorem split_one (a : List UInt8) (h : (32 : UInt8) ∉ a) : Lib.split a [32] = [a] := by
  unfold Lib.split
  rw [Lib.count_one, List.count_eq_zero.2 h]
  rfl
theorem join_cc (n m : List UInt8) (ns : List (List UInt8)) : Lib.join (n :: m :: ns) [32] = n ++ 32 :: Lib.join (m :: ns) [32] := by
  rw [Lib.join_cons, Lib.join_cons]
  simp [Lib.joinTail]
theorem split_join : ∀ (ns : List (List UInt8)) (n : List UInt8), (∀ x ∈ n :: ns, (32 : UInt8) ∉ x) → Lib.split (Lib.join (n :: ns) [32]) [32] = n :: ns
  | [], n, h => by rw [Lib.join_one, split_one n (h n (by simp))]
  | m :: ns, n, h => by rw [join_cc, split_more _ _ (h n (by simp)), split_join ns m (fun x hx => h x (List.mem_cons_of_mem _ hx))]
theorem joinK : ∀ (k : Nat) (s : List UInt8), Lib.splitK [32] 0 k s ≠ [] ∧ Lib.join (Lib.splitK [32] 0 k s) [32] = s
  | 0, s => ⟨by simp [Lib.splitK], Lib.join_one s _⟩
  | k + 1, s => by
    unfold Lib.splitK
    by_cases h : (Lib.index s [32] == -1) = true
    · rw [if_pos h]; exact ⟨by simp, Lib.join_one s _⟩
    · rw [if_neg h]
      refine ⟨by simp, ?_⟩
      have hge := Lib.index_ge s [32]
      have h2 : ¬ Lib.index s [32] = -1 := fun e => h (beq_iff_eq.2 e)
      have hcut := cut_eq [32] (by simp) s
      have hc : Lib.cut s [32] = (s.take (Lib.index s [32]).toNat, s.drop ((Lib.index s [32]).toNat + 1), true) := by
        unfold Lib.cut
        rw [if_pos (by omega)]; rfl
      rw [hc, if_pos rfl] at hcut
      have ih := joinK k (s.drop ((Lib.index s [32]).toNat + 1))
      obtain ⟨y, ys, hy⟩ := List.exists_cons_of_ne_nil ih.1
      rw [show ([32] : List UInt8).length = 1 from rfl, hy, join_cc, ← hy, ih.2, Nat.add_zero]
      conv => rhs; rw [hcut]
      simp
theorem join_split (s : List UInt8) : Lib.split s [32] ≠ [] ∧ Lib.join (Lib.split s [32]) [32] = s := joinK _ s

theorem path_shift : ∀ (ps : List Int) (i : Nat), pathT (i + 1) ps = pathT 1 ps
  | [], _ => rfl
  | n :: ps, i => by
    show ((if 0 < i + 1 then [46] else []) ++ digitsL n.toNat) ++ pathT (i + 1 + 1) ps = ((if 0 < 1 then [46] else []) ++ digitsL n.toNat) ++ pathT (1 + 1) ps
    rw [if_pos (by omega), if_pos (by omega), path_shift ps (i + 1), path_shift ps 1]
theorem path_cc (n m : Int) (ps : List Int) : pathT 0 (n :: m :: ps) = digitsL n.toNat ++ 46 :: pathT 0 (m :: ps) := by
  show ([] ++ digitsL n.toNat) ++ (([46] ++ digitsL m.toNat) ++ pathT (1 + 1) ps) = digitsL n.toNat ++ 46 :: (([] ++ digitsL m.toNat) ++ pathT 1 ps)
  rw [path_shift ps 1]
  simp
theorem path_one (n : Int) : pathT 0 [n] = digitsL n.toNat := by simp [pathT]
theorem names_shift : ∀ (ns : List (List UInt8)) (i : Nat), namesT (i + 1) ns = Lib.joinTail [32] ns
  | [], _ => rfl
  | n :: ns, i => by
    show ((if i + 1 = 0 then [32, 40] else [32]) ++ n) ++ namesT (i + 1 + 1) ns = _
    rw [if_neg (by omega), names_shift ns (i + 1)]
    simp [Lib.joinTail]
theorem names_cons (n : List UInt8) (ns : List (List UInt8)) : namesT 0 (n :: ns) = 32 :: 40 :: Lib.join (n :: ns) [32] := by
  show ([32, 40] ++ n) ++ namesT 1 ns = _
  rw [names_shift ns 0, Lib.join_cons]
  simp
/-- the numbers, each with a dot behind it -/
def dots : List Int → List UInt8
  | [] => []
  | n :: ps => digitsL n.toNat ++ 46 :: dots ps
theorem dots_path : ∀ (ps : List Int) (n : Int), dots (n :: ps) = pathT 0 (n :: ps) ++ [46]
  | [], n => by rw [path_one]; rfl
  | m :: ps, n => by
    show digitsL n.toNat ++ 46 :: dots (m :: ps) = _
    rw [dots_path ps m, path_cc]
    simp
theorem dots_ok : ∀ (ps : List Int), (∀ n ∈ ps, 1 ≤ n ∧ n ≤ 999) → (32 : UInt8) ∉ dots ps ∧ upL (dots ps) = dots ps
  | [], _ => ⟨by simp [dots], rfl⟩
  | n :: ps, h => by
    have k := digits_ok (h n (by simp))
    have k2 := digs_plain k.2.1
    have ih := dots_ok ps (fun x hx => h x (List.mem_cons_of_mem _ hx))
    have e46 : upB 46 = 46 := (up46 46).2 rfl
    refine ⟨?_, ?_⟩
    · simp only [dots, List.mem_append, List.mem_cons, not_or]
      exact ⟨k2.1, by decide, ih.1⟩
    · have k3 := k2.2.2
      have k4 := ih.2
      unfold upL at k3 k4 ⊢
      simp only [dots, List.map_append, List.map_cons, k3, k4, e46]
theorem path_ne (n : Int) (ps : List Int) (h : ∀ x ∈ n :: ps, 1 ≤ x ∧ x ≤ 999) : pathT 0 (n :: ps) ≠ [] := by
  have k := (digits_ok (h n (by simp))).2.2
  show ([] ++ digitsL n.toNat) ++ pathT 1 ps ≠ []
  simp [k]
/-- what stands behind the numbers -/
def endL (wh : List UInt8) (ns : List (List UInt8)) : List UInt8 := wh ++ (if ns = [] then [] else 32 :: 40 :: (Lib.join ns [32] ++ [41]))
theorem text_some (ps : List Int) (wh : List UInt8) (ns : List (List UInt8)) (hp : ∀ n ∈ ps, 1 ≤ n ∧ n ≤ 999) (hw : wh ≠ []) : textL ps wh ns = dots ps ++ endL wh ns := by
  have e1 : pathT 0 ps ++ (if pathT 0 ps ≠ [] ∧ wh ≠ [] then [46] else []) = dots ps := by
    cases ps with
    | nil => rfl
    | cons n ps => rw [dots_path, if_pos ⟨path_ne n ps hp, hw⟩]
  have e2 : namesT 0 ns ++ (if ns ≠ [] then [41] else []) = if ns = [] then [] else 32 :: 40 :: (Lib.join ns [32] ++ [41]) := by
    cases ns with
    | nil => rfl
    | cons n ns => rw [names_cons, if_pos (by simp), if_neg (by simp)]; simp
  unfold textL endL
  rw [e1, ← e2]
  simp
theorem text_none (ps : List Int) : textL ps [] [] = pathT 0 ps := by
  unfold textL
  rw [if_neg (fun h => h.2 rfl)]
  simp [namesT]

/-- the texts that What can have -/
def isWh (wh : List UInt8) : Prop := wh = tHEADER ∨ wh = tTEXT ∨ wh = tMIME ∨ wh = tFIELDS ∨ wh = tNOT
theorem wh_facts {wh : List UInt8} (h : isWh wh) : (32 : UInt8) ∉ wh ∧ upL wh = wh ∧ ∃ c t, wh = c :: t ∧ c ≠ 46 ∧ digB c = false := by
  rcases h with rfl | rfl | rfl | rfl | rfl
  · exact ⟨by decide, by decide, _, _, rfl, by decide, by decide⟩
  · exact ⟨by decide, by decide, _, _, rfl, by decide, by decide⟩
  · exact ⟨by decide, by decide, _, _, rfl, by decide, by decide⟩
  · exact ⟨by decide, by decide, _, _, rfl, by decide, by decide⟩
  · exact ⟨by decide, by decide, _, _, rfl, by decide, by decide⟩
theorem right_parts {ps : List Int} {wh : List UInt8} {ns : List (List UInt8)} (h : rightL ps wh ns = true) : ps.length ≤ 20 ∧ ns.length ≤ 20 ∧ (∀ n ∈ ps, 1 ≤ n ∧ n ≤ 999) ∧ (wh = [] ∨ isWh wh) ∧ (∀ n ∈ ns, nameOk n = true) ∧ (ns ≠ [] → isWh wh) := by
  unfold rightL at h
  by_cases c : 20 < ps.length ∨ 20 < ns.length ∨ ps.any badN = true
  · rw [if_pos c] at h; exact absurd h (by decide)
  rw [if_neg c] at h
  rw [not_or, not_or] at c
  have hp : ∀ n ∈ ps, 1 ≤ n ∧ n ≤ 999 := by
    intro n hn
    have := c.2.2
    rw [List.any_eq_true] at this
    have h2 : badN n = false := by
      by_cases hb : badN n = true
      · exact absurd ⟨n, hn, hb⟩ this
      · simpa using hb
    simp only [badN, Bool.or_eq_false_iff, decide_eq_false_iff_not] at h2
    omega
  refine ⟨by omega, by omega, hp, ?_⟩
  by_cases c1 : wh = [] ∨ wh = tHEADER ∨ wh = tTEXT
  · rw [if_pos c1] at h
    have e : ns = [] := by simpa using h
    subst e
    refine ⟨?_, by simp, fun h => absurd rfl h⟩
    rcases c1 with h | h | h
    · exact .inl h
    · exact .inr (.inl h)
    · exact .inr (.inr (.inl h))
  rw [if_neg c1] at h
  by_cases c2 : wh = tMIME
  · rw [if_pos c2, Bool.and_eq_true] at h
    have e : ns = [] := by simpa using h.1
    subst e
    exact ⟨.inr (.inr (.inr (.inl c2))), by simp, fun h => absurd rfl h⟩
  rw [if_neg c2] at h
  by_cases c3 : wh = tFIELDS ∨ wh = tNOT
  · rw [if_pos c3, Bool.and_eq_true] at h
    have hw : isWh wh := by
      rcases c3 with h | h
      · exact .inr (.inr (.inr (.inl h)))
      · exact .inr (.inr (.inr (.inr h)))
    refine ⟨.inr hw, ?_, fun _ => hw⟩
    intro n hn
    have h2 := h.2
    rw [Bool.not_eq_true', List.any_eq_false] at h2
    have := h2 n hn
    simpa using this
  rw [if_neg c3] at h
  exact absurd h (by decide)
set_option maxRecDepth 100000 in
theorem bad_blank : badC 32 = true ∧ badC 41 = true := by decide +kernel
theorem name_free {n : List UInt8} (h : nameOk n = true) : (32 : UInt8) ∉ n ∧ (41 : UInt8) ∉ n ∧ n ≠ [] := by
  unfold nameOk at h
  rw [Bool.and_eq_true, List.all_eq_true] at h
  refine ⟨fun e => ?_, fun e => ?_, fun e => ?_⟩
  · have := h.1 _ e; rw [bad_blank.1] at this; exact absurd this (by decide)
  · have := h.1 _ e; rw [bad_blank.2] at this; exact absurd this (by decide)
  · rw [e] at h; exact absurd h.2 (by decide)

theorem cut_dot_more : ∀ (d r : List UInt8), (46 : UInt8) ∉ d → Lib.cut (d ++ 46 :: r) [46] = (d, r, true)
  | [], r, _ => by rw [List.nil_append, cut1, if_pos rfl]
  | c :: t, r, h => by
    have h1 : ¬ c = 46 := fun e => h (e ▸ List.mem_cons_self)
    rw [List.cons_append, cut1, if_neg h1, cut_dot_more t r (fun e => h (List.mem_cons_of_mem _ e))]
theorem cut_dot_none : ∀ (d : List UInt8), (46 : UInt8) ∉ d → Lib.cut d [46] = (d, [], false)
  | [], _ => cut_nil [46] (by simp)
  | c :: t, h => by
    have h1 : ¬ c = 46 := fun e => h (e ▸ List.mem_cons_self)
    rw [cut1, if_neg h1, cut_dot_none t (fun e => h (List.mem_cons_of_mem _ e))]
theorem cut_par_more : ∀ (d r : List UInt8), (32 : UInt8) ∉ d → Lib.cut (d ++ 32 :: 40 :: r) [32, 40] = (d, r, true)
  | [], r, _ => by rw [List.nil_append, cut_cons _ _ _ (by simp), if_pos (by simp)]; rfl
  | c :: t, r, h => by
    have h1 : ¬ c = 32 := fun e => h (e ▸ List.mem_cons_self)
    rw [List.cons_append, cut2 _ _ h1, cut_par_more t r (fun e => h (List.mem_cons_of_mem _ e))]
theorem cut_par_none : ∀ (d : List UInt8), (32 : UInt8) ∉ d → Lib.cut d [32, 40] = (d, [], false)
  | [], _ => cut_nil [32, 40] (by simp)
  | c :: t, h => by
    have h1 : ¬ c = 32 := fun e => h (e ▸ List.mem_cons_self)
    rw [cut2 _ _ h1, cut_par_none t (fun e => h (List.mem_cons_of_mem _ e))]

theorem loop_step (f : Nat) (n : Int) (r : List UInt8) (h : 1 ≤ n ∧ n ≤ 999) : loopF (f + 1) (digitsL n.toNat ++ 46 :: r) = (n :: (loopF f r).1, (loopF f r).2) := by
  have k := digits_ok h
  have k2 := digs_plain k.2.1
  rw [loopF, cut_dot_more _ _ k2.2.1]
  simp only
  rw [k.1, if_neg (by omega), if_pos trivial]
theorem loop_end (f : Nat) (n : Int) (h : 1 ≤ n ∧ n ≤ 999) : loopF (f + 1) (digitsL n.toNat) = ([n], none) := by
  have k := digits_ok h
  have k2 := digs_plain k.2.1
  rw [loopF, cut_dot_none _ k2.2.1]
  simp only
  rw [k.1, if_neg (by omega), if_neg (by decide)]
theorem loop_dots : ∀ (ps : List Int) (f : Nat) (r : List UInt8), (∀ n ∈ ps, 1 ≤ n ∧ n ≤ 999) → numL (Lib.cut r [46]).1 = 0 → loopF (f + ps.length + 1) (dots ps ++ r) = (ps, some r)
  | [], f, r, _, hr => by
    show loopF (f + 0 + 1) r = _
    unfold loopF
    rw [if_pos hr]
  | n :: ps, f, r, h, hr => by
    have e : dots (n :: ps) ++ r = digitsL n.toNat ++ 46 :: (dots ps ++ r) := by simp [dots]
    rw [e, List.length_cons, ← Nat.add_assoc, loop_step _ _ _ (h n (by simp)), loop_dots ps f r (fun x hx => h x (List.mem_cons_of_mem _ hx)) hr]
theorem loop_path : ∀ (ps : List Int) (n : Int) (f : Nat), (∀ x ∈ n :: ps, 1 ≤ x ∧ x ≤ 999) → loopF (f + ps.length + 1) (pathT 0 (n :: ps)) = (n :: ps, none)
  | [], n, f, h => by rw [path_one]; exact loop_end _ n (h n (by simp))
  | m :: ps, n, f, h => by
    rw [path_cc, List.length_cons, ← Nat.add_assoc, loop_step _ _ _ (h n (by simp)), loop_path ps m f (fun x hx => h x (List.mem_cons_of_mem _ hx))]
theorem dots_len : ∀ ps : List Int, ps.length ≤ (dots ps).length
  | [] => Nat.le_refl _
  | n :: ps => by have := dots_len ps; simp [dots]; omega
theorem suffix41 (x : List UInt8) : Lib.hasSuffix (x ++ [41]) [41] = true ∧ Lib.trimSuffix (x ++ [41]) [41] = x := by
  have h : Lib.hasSuffix (x ++ [41]) [41] = true := by
    unfold Lib.hasSuffix
    rw [List.isSuffixOf_iff_suffix]
    exact ⟨x, rfl⟩
  refine ⟨h, ?_⟩
  unfold Lib.trimSuffix
  rw [if_pos h]
  simp
theorem suffix41_back {y : List UInt8} (h : Lib.hasSuffix y [41] = true) : y = Lib.trimSuffix y [41] ++ [41] := by
  have h0 := h
  unfold Lib.hasSuffix at h
  rw [List.isSuffixOf_iff_suffix] at h
  obtain ⟨x, rfl⟩ := h
  rw [(suffix41 x).2]

/-- a right section's text is read, and is that section -/
theorem read_text {ps : List Int} {wh : List UInt8} {ns : List (List UInt8)} (h : rightL ps wh ns = true) : readL (textL ps wh ns) = some (ps, wh, ns) := by
  obtain ⟨_, _, hp, hw, hn, hnw⟩ := right_parts h
  rw [readL_eq]
  rcases hw with rfl | hw
  · have e : ns = [] := by
      by_cases e : ns = []
      · exact e
      · have := (wh_facts (hnw e)).2.2
        obtain ⟨_, _, h, _⟩ := this
        exact absurd h (by simp)
    subst e
    rw [text_none]
    cases ps with
    | nil =>
      show tailL (if ([] : List UInt8) = [] then ([], none) else _).1 (if ([] : List UInt8) = [] then ([], none) else _).2 = _
      rw [if_pos rfl]
      show (if rightL [] [] [] = true then some ([], [], []) else none) = _
      rw [if_pos h]
    | cons n ps =>
      have hl : (pathT 0 (n :: ps)).length + 1 = ((pathT 0 (n :: ps)).length - ps.length) + ps.length + 1 := by
        have := dots_len (n :: ps)
        rw [dots_path] at this
        simp at this
        omega
      rw [if_neg (path_ne n ps hp), hl, loop_path ps n _ hp]
      show (if rightL (n :: ps) [] [] = true then some (n :: ps, [], []) else none) = _
      rw [if_pos h]
  · obtain ⟨k1, k2, c, t, hc, k3, k4⟩ := wh_facts hw
    have hw0 : wh ≠ [] := by rw [hc]; simp
    rw [text_some ps wh ns hp hw0]
    have hr : endL wh ns = c :: (t ++ (if ns = [] then [] else 32 :: 40 :: (Lib.join ns [32] ++ [41]))) := by
      unfold endL; rw [hc]; rfl
    have hz : numL (Lib.cut (endL wh ns) [46]).1 = 0 := by
      rw [hr, cut1, if_neg k3]
      unfold numL
      rw [if_pos (.inr (.inr (.inr (by rw [List.all_cons, k4]; rfl))))]
    have hne : dots ps ++ endL wh ns ≠ [] := by rw [hr]; simp
    have hl : (dots ps ++ endL wh ns).length + 1 = ((dots ps ++ endL wh ns).length - ps.length) + ps.length + 1 := by
      have := dots_len ps
      simp only [List.length_append]
      omega
    rw [if_neg hne, hl, loop_dots ps _ _ hp hz]
    simp only
    unfold tailL
    by_cases e : ns = []
    · subst e
      have he : endL wh [] = wh := by simp [endL]
      simp only [he, cut_par_none wh k1, k2]
      rw [if_neg (by decide), if_neg hw0, if_pos h]
    · have he : endL wh ns = wh ++ 32 :: 40 :: (Lib.join ns [32] ++ [41]) := by unfold endL; rw [if_neg e]
      have hs : Lib.split (Lib.join ns [32]) [32] = ns := by
        cases ns with
        | nil => exact absurd rfl e
        | cons n ns => exact split_join ns n (fun x hx => (name_free (hn x hx)).1)
      simp only [he, cut_par_more wh _ k1, k2, (suffix41 _).1, (suffix41 _).2, hs]
      rw [if_pos trivial, if_pos trivial, if_neg hw0, if_pos h]

theorem loop_back : ∀ (f : Nat) (s : List UInt8), (∀ r, (loopF f s).2 = some r → s = dots (loopF f s).1 ++ r) ∧ ((loopF f s).2 = none → s ++ [46] = dots (loopF f s).1)
  | 0, s => ⟨fun r h => by rw [← Option.some.inj h]; rfl, fun h => nomatch h⟩
  | f + 1, s => by
    have k := cut_eq [46] (by simp) s
    unfold loopF
    by_cases h : numL (Lib.cut s [46]).1 = 0
    · rw [if_pos h]
      exact ⟨fun r hr => (Option.some.inj hr) ▸ rfl, fun h => nomatch h⟩
    · rw [if_neg h]
      have d := num_digits h
      by_cases h2 : (Lib.cut s [46]).2.2 = true
      · rw [if_pos h2]
        rw [if_pos h2] at k
        have ih := loop_back f (Lib.cut s [46]).2.1
        refine ⟨fun r hr => ?_, fun hr => ?_⟩
        · show s = (digitsL (numL (Lib.cut s [46]).1).toNat ++ 46 :: dots _) ++ r
          rw [d]
          have := ih.1 r hr
          rw [List.append_assoc, List.cons_append, ← this]
          simpa using k
        · show s ++ [46] = digitsL (numL (Lib.cut s [46]).1).toNat ++ 46 :: dots _
          rw [d, ← ih.2 hr]
          conv => lhs; rw [k]
          simp
      · rw [if_neg h2]
        rw [if_neg h2] at k
        refine ⟨fun r hr => (nomatch hr), fun _ => ?_⟩
        show s ++ [46] = digitsL (numL (Lib.cut s [46]).1).toNat ++ 46 :: []
        rw [d, k.1]

/-- what is read is right, and its text is the text but for What's letters -/
theorem read_back {s : List UInt8} {ps : List Int} {wh : List UInt8} {ns : List (List UInt8)} (h : readL s = some (ps, wh, ns)) : rightL ps wh ns = true ∧ textL ps wh ns = upTo s := by
  rw [readL_eq] at h
  by_cases h0 : s = []
  · subst h0
    rw [if_pos rfl] at h
    have h1 : (if rightL [] [] [] = true then some (([] : List Int), ([] : List UInt8), ([] : List (List UInt8))) else none) = some (ps, wh, ns) := h
    split at h1
    · rename_i hr
      cases h1
      exact ⟨hr, rfl⟩
    · exact absurd h1 (by simp)
  rw [if_neg h0] at h
  have k := loop_back (s.length + 1) s
  generalize loopF (s.length + 1) s = R at h k
  obtain ⟨qs, o⟩ := R
  cases o with
  | none =>
    have h1 : (if rightL qs [] [] = true then some (qs, ([] : List UInt8), ([] : List (List UInt8))) else none) = some (ps, wh, ns) := h
    split at h1
    case isFalse => exact absurd h1 (by simp)
    rename_i hr
    cases h1
    refine ⟨hr, ?_⟩
    have e := k.2 rfl
    simp only at e
    have hp := (right_parts hr).2.2.1
    have ok := dots_ok ps hp
    rw [← e] at ok
    have n32 : (32 : UInt8) ∉ s := fun m => ok.1 (List.mem_append_left _ m)
    have us : upL s = s := by
      have := ok.2
      unfold upL at this ⊢
      rw [List.map_append] at this
      exact (List.append_inj this (by simp)).1
    rw [text_none, upTo_plain s n32, us]
    cases ps with
    | nil => exact absurd (congrArg List.length e) (by simp [dots])
    | cons n ps =>
      rw [dots_path] at e
      exact (List.append_cancel_right e).symm
  | some r =>
    have e := k.1 r rfl
    simp only at e h
    unfold tailL at h
    simp only at h
    have kc := cut_eq [32, 40] (by simp) r
    generalize Lib.cut r [32, 40] = q at h kc
    obtain ⟨q1, q2, b⟩ := q
    cases b with
    | true =>
      simp only [if_true] at kc h
      by_cases h41 : Lib.hasSuffix q2 [41] = true
      case neg => rw [if_neg h41] at h; exact absurd h (by simp)
      rw [if_pos h41] at h
      by_cases hq : q1 = []
      · rw [if_pos hq] at h; exact absurd h (by simp)
      rw [if_neg hq] at h
      by_cases hr : rightL qs (upL q1) (Lib.split (Lib.trimSuffix q2 [41]) [32]) = true
      case neg => rw [if_neg hr] at h; exact absurd h (by simp)
      rw [if_pos hr] at h
      cases h
      refine ⟨hr, ?_⟩
      obtain ⟨_, _, hp, hw, _, _⟩ := right_parts hr
      have ok := dots_ok ps hp
      have hwn : upL q1 ≠ [] := by unfold upL; simpa using hq
      have n1 : (32 : UInt8) ∉ q1 := by
        rcases hw with hw | hw
        · exact absurd hw hwn
        · intro m
          have h32 : upB 32 = 32 := (up32 32).2 rfl
          exact (wh_facts hw).1 (h32 ▸ List.mem_map_of_mem (f := upB) m)
      have js := join_split (Lib.trimSuffix q2 [41])
      rw [text_some _ _ _ hp hwn, endL, if_neg js.1, js.2, ← suffix41_back h41, e, kc, upTo_app _ _ ok.1, ok.2, List.append_assoc q1, upTo_app _ _ n1]
      simp [upTo]
    | false =>
      simp only [Bool.false_eq_true, if_false] at kc h
      by_cases hq : q1 = []
      · rw [if_pos hq] at h; exact absurd h (by simp)
      rw [if_neg hq] at h
      by_cases hr : rightL qs (upL q1) [] = true
      case neg => rw [if_neg hr] at h; exact absurd h (by simp)
      rw [if_pos hr] at h
      cases h
      refine ⟨hr, ?_⟩
      obtain ⟨_, _, hp, hw, _, _⟩ := right_parts hr
      have ok := dots_ok ps hp
      have hwn : upL q1 ≠ [] := by unfold upL; simpa using hq
      have n1 : (32 : UInt8) ∉ q1 := by
        rcases hw with hw | hw
        · exact absurd hw hwn
        · intro m
          have h32 : upB 32 = 32 := (up32 32).2 rfl
          exact (wh_facts hw).1 (h32 ▸ List.mem_map_of_mem (f := upB) m)
      rw [text_some _ _ _ hp hwn, endL, if_pos rfl, List.append_nil, e, ← kc.1, upTo_app _ _ ok.1, ok.2, upTo_plain _ n1]

end Go.Proofs.YtgkbigbekmkobaaDoor
