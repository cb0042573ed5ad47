/- section (plain): capital letters ahead of the first blank change nothing of what is read. -/
import Derived.Test.YtgkbigbekmkobaaDoorKG
set_option linter.unusedVariables false
set_option linter.unusedSimpArgs false
namespace Go.Proofs.YtgkbigbekmkobaaDoor

/-- capital letters ahead of the first blank -/
def upTo : List UInt8 → List UInt8
  | [] => []
  | c :: t => if c = 32 then c :: t else upB c :: upTo t

set_option maxRecDepth 100000 in
theorem upB_fin : ∀ n : Fin 256, ((upB (UInt8.ofNat n.val) == 32) = (UInt8.ofNat n.val == 32)) ∧ ((upB (UInt8.ofNat n.val) == 46) = (UInt8.ofNat n.val == 46)) ∧ digB (upB (UInt8.ofNat n.val)) = digB (UInt8.ofNat n.val) ∧ (digB (UInt8.ofNat n.val) = true → upB (UInt8.ofNat n.val) = UInt8.ofNat n.val) ∧ upB (upB (UInt8.ofNat n.val)) = upB (UInt8.ofNat n.val) := by decide +kernel
theorem upB_all (c : UInt8) : ((upB c == 32) = (c == 32)) ∧ ((upB c == 46) = (c == 46)) ∧ digB (upB c) = digB c ∧ (digB c = true → upB c = c) ∧ upB (upB c) = upB c := by
  have h := upB_fin ⟨c.toNat, c.toNat_lt⟩
  simpa using h
theorem up32 (c : UInt8) : upB c = 32 ↔ c = 32 := by
  have h := (upB_all c).1
  rw [Bool.eq_iff_iff] at h
  simpa using h
theorem up46 (c : UInt8) : upB c = 46 ↔ c = 46 := by
  have h := (upB_all c).2.1
  rw [Bool.eq_iff_iff] at h
  simpa using h
theorem dig_up (c : UInt8) : digB (upB c) = digB c := (upB_all c).2.2.1
theorem up_dig {c : UInt8} (h : digB c = true) : upB c = c := (upB_all c).2.2.2.1 h
theorem up_up (c : UInt8) : upB (upB c) = upB c := (upB_all c).2.2.2.2
theorem dig_32 : digB 32 = false := by decide
theorem dig_46 : digB 46 = false := by decide

theorem upTo_len : ∀ s : List UInt8, (upTo s).length = s.length
  | [] => rfl
  | c :: t => by
    unfold upTo
    split
    · rfl
    · simp [upTo_len t]
theorem upTo_app : ∀ (a b : List UInt8), (32 : UInt8) ∉ a → upTo (a ++ b) = upL a ++ upTo b
  | [], b, _ => rfl
  | c :: t, b, h => by
    have h1 : ¬ c = 32 := fun e => h (e ▸ List.mem_cons_self)
    have h2 : (32 : UInt8) ∉ t := fun e => h (List.mem_cons_of_mem _ e)
    rw [List.cons_append, upTo, if_neg h1, upTo_app t b h2]
    rfl
theorem upTo_plain (a : List UInt8) (h : (32 : UInt8) ∉ a) : upTo a = upL a := by
  have := upTo_app a [] h
  simpa [upTo] using this
theorem upL_upTo : ∀ a : List UInt8, upL (upTo a) = upL a
  | [] => rfl
  | c :: t => by
    unfold upTo
    split
    · rfl
    · show upB (upB c) :: upL (upTo t) = upB c :: upL t
      rw [up_up, upL_upTo t]
theorem upTo_nil (a : List UInt8) : upTo a = [] ↔ a = [] := by
  rw [← List.length_eq_zero_iff, upTo_len, List.length_eq_zero_iff]
theorem digs_plain {a : List UInt8} (h : a.all digB = true) : (32 : UInt8) ∉ a ∧ (46 : UInt8) ∉ a ∧ upL a = a := by
  rw [List.all_eq_true] at h
  refine ⟨fun e => ?_, fun e => ?_, ?_⟩
  · have := h _ e; rw [dig_32] at this; exact absurd this (by decide)
  · have := h _ e; rw [dig_46] at this; exact absurd this (by decide)
  · unfold upL
    exact (List.map_congr_left (g := id) (fun x hx => up_dig (h x hx))).trans (List.map_id _)
theorem all_upTo : ∀ a : List UInt8, (upTo a).all digB = a.all digB
  | [] => rfl
  | c :: t => by
    unfold upTo
    split
    · rfl
    · rw [List.all_cons, List.all_cons, dig_up, all_upTo t]
theorem num_nz {d : List UInt8} (h : numL d ≠ 0) : d ≠ [] ∧ d.head? ≠ some 48 ∧ d.length ≤ 3 ∧ d.all digB = true ∧ numL d = valI d := by
  unfold numL at h ⊢
  by_cases hc : d = [] ∨ d.head? = some 48 ∨ 3 < d.length ∨ d.all digB = false
  · rw [if_pos hc] at h; exact absurd rfl h
  · rw [if_neg hc]
    rw [not_or, not_or, not_or] at hc
    exact ⟨hc.1, hc.2.1, by omega, by simpa using hc.2.2.2, rfl⟩
theorem num_up (d : List UInt8) : numL (upTo d) = numL d := by
  by_cases h : d.all digB = true
  · rw [upTo_plain d (digs_plain h).1, (digs_plain h).2.2]
  · have h1 : d.all digB = false := by simpa using h
    have h2 : (upTo d).all digB = false := by rw [all_upTo, h1]
    unfold numL
    rw [if_pos (.inr (.inr (.inr h2))), if_pos (.inr (.inr (.inr h1)))]

theorem cut1 (c : UInt8) (t : List UInt8) : Lib.cut (c :: t) [46] = if c = 46 then ([], t, true) else (c :: (Lib.cut t [46]).1, (Lib.cut t [46]).2.1, (Lib.cut t [46]).2.2) := by
  rw [cut_cons c t [46] (by simp)]
  by_cases h : c = 46
  · rw [if_pos h, if_pos (by rw [h]; simp)]; rfl
  · rw [if_neg h, if_neg (by simp only [List.isPrefixOf_cons_cons, List.isPrefixOf_nil_left, Bool.and_true, beq_iff_eq]; exact fun e => h e.symm)]
theorem cut2 (c : UInt8) (t : List UInt8) (h : c ≠ 32) : Lib.cut (c :: t) [32, 40] = (c :: (Lib.cut t [32, 40]).1, (Lib.cut t [32, 40]).2.1, (Lib.cut t [32, 40]).2.2) := by
  rw [cut_cons c t [32, 40] (by simp), if_neg (by simp only [List.isPrefixOf_cons_cons, Bool.and_eq_true, beq_iff_eq]; exact fun e => h e.1.symm)]
theorem cut2b (t : List UInt8) : ∃ q, Lib.cut (32 :: t) [32, 40] = (q, (Lib.cut (32 :: t) [32, 40]).2.1, (Lib.cut (32 :: t) [32, 40]).2.2) ∧ upTo q = q := by
  rw [cut_cons 32 t [32, 40] (by simp)]
  split
  · exact ⟨[], rfl, rfl⟩
  · exact ⟨32 :: (Lib.cut t [32, 40]).1, rfl, by simp [upTo]⟩
theorem cut_dot : ∀ s : List UInt8, (Lib.cut (upTo s) [46]).1 = upTo (Lib.cut s [46]).1 ∧ (Lib.cut (upTo s) [46]).2.2 = (Lib.cut s [46]).2.2 ∧ ((32 : UInt8) ∉ (Lib.cut s [46]).1 → (Lib.cut (upTo s) [46]).2.1 = upTo (Lib.cut s [46]).2.1)
  | [] => by rw [upTo, cut_nil [46] (by simp)]; simp [upTo]
  | c :: t => by
    have ih := cut_dot t
    by_cases h : c = 32
    · subst h
      have e : upTo (32 :: t) = 32 :: t := by simp [upTo]
      rw [e, cut1, if_neg (by decide)]
      exact ⟨by simp [upTo], rfl, fun h => absurd List.mem_cons_self h⟩
    · rw [upTo, if_neg h, cut1, cut1]
      by_cases h2 : c = 46
      · rw [if_pos ((up46 c).2 h2), if_pos h2]
        exact ⟨rfl, rfl, fun _ => rfl⟩
      · rw [if_neg (fun e => h2 ((up46 c).1 e)), if_neg h2]
        refine ⟨?_, ih.2.1, fun k => ih.2.2 fun e => k (List.mem_cons_of_mem _ e)⟩
        show upB c :: _ = upTo (c :: _)
        rw [upTo, if_neg h, ih.1]
theorem cut_par : ∀ s : List UInt8, Lib.cut (upTo s) [32, 40] = (upTo (Lib.cut s [32, 40]).1, (Lib.cut s [32, 40]).2.1, (Lib.cut s [32, 40]).2.2)
  | [] => by rw [upTo, cut_nil [32, 40] (by simp)]; rfl
  | c :: t => by
    have ih := cut_par t
    by_cases h : c = 32
    · subst h
      have e : upTo (32 :: t) = 32 :: t := by simp [upTo]
      obtain ⟨q, hq, h2⟩ := cut2b t
      rw [e, hq, h2]
    · rw [upTo, if_neg h, cut2 _ _ (fun e => h ((up32 c).1 e)), cut2 _ _ h, ih]
      show _ = (upTo (c :: _), _, _)
      rw [upTo, if_neg h]

theorem loop_up : ∀ (f : Nat) (s : List UInt8), loopF f (upTo s) = ((loopF f s).1, (loopF f s).2.map upTo)
  | 0, s => rfl
  | f + 1, s => by
    have k := cut_dot s
    unfold loopF
    rw [k.1, num_up, k.2.1]
    by_cases h : numL (Lib.cut s [46]).1 = 0
    · rw [if_pos h, if_pos h]; rfl
    · rw [if_neg h, if_neg h, k.2.2 (digs_plain (num_nz h).2.2.2.1).1, loop_up f]
      by_cases h2 : (Lib.cut s [46]).2.2 = true
      · rw [if_pos h2, if_pos h2]
      · rw [if_neg h2, if_neg h2]; rfl
theorem tail_up (ps : List Int) (r : Option (List UInt8)) : tailL ps (r.map upTo) = tailL ps r := by
  cases r with
  | none => rfl
  | some r =>
    show tailL ps (some (upTo r)) = tailL ps (some r)
    unfold tailL
    simp only [cut_par, upTo_nil, upL_upTo]
theorem read_up (s : List UInt8) : readL (upTo s) = readL s := by
  rw [readL_eq, readL_eq]
  by_cases h : s = []
  · subst h; rfl
  · rw [if_neg h, if_neg (fun e => h ((upTo_nil s).1 e)), upTo_len, loop_up, tail_up]

end Go.Proofs.YtgkbigbekmkobaaDoor
