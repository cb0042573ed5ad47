/- The law HeaderFolds. -/
import Derived.Test.YtplmekfcnggigaaDoorHF
import Derived.Test.YtplmekfcnggigaaDoorHG
set_option linter.unusedVariables false
set_option linter.unusedSimpArgs false
namespace Go.Proofs.YtplmekfcnggigaaDoor
open Go.RowKit

theorem sepF_cases (k : Nat) : ((k : Int).tmod 3 = 0 ∧ sepF k = [13, 10, 32]) ∨ ((k : Int).tmod 3 = 1 ∧ sepF k = [32]) ∨ ((k : Int).tmod 3 = 2 ∧ sepF k = [10, 32]) := by
  have h : (k : Int).tmod 3 = ((k % 3 : Nat) : Int) := by rw [Int.tmod_eq_emod_of_nonneg (by omega)]; omega
  rw [h]
  unfold sepF
  rcases (by omega : k % 3 = 0 ∨ k % 3 = 1 ∨ k % 3 = 2) with e | e | e <;> simp [e]

def fo : List (List UInt8) → List UInt8
  | [] => [65, 58, 32]
  | w :: ws => ([65, 58, 32] ++ w) ++ foldF 1 ws
def fl : List (List UInt8) → List UInt8
  | [] => []
  | w :: ws => flat0 w ws
theorem fo_one (w : List UInt8) : fo ([] ++ [w]) = fo [] ++ w := by simp [fo, foldF]
theorem fl_one (w : List UInt8) : fl ([] ++ [w]) = fl [] ++ w := by simp [fl, flat0, flatF]
theorem fo_snoc (l : List (List UInt8)) (w : List UInt8) (h : l ≠ []) : fo (l ++ [w]) = (fo l ++ sepF l.length) ++ w := by
  cases l with
  | nil => exact absurd rfl h
  | cons x l =>
    show ([65, 58, 32] ++ x) ++ foldF 1 (l ++ [w]) = _
    rw [foldF_snoc, show 1 + l.length = (x :: l).length by simp; omega]
    simp [fo]
theorem fl_snoc (l : List (List UInt8)) (w : List UInt8) (h : l ≠ []) : fl (l ++ [w]) = (fl l ++ [32]) ++ w := by
  cases l with
  | nil => exact absurd rfl h
  | cons x l =>
    show x ++ flatF (l ++ [w]) = _
    rw [flatF_snoc]
    simp [fl, flat0]
theorem fo_len (l : List (List UInt8)) (h : ∀ w ∈ l, w.length ≤ 60) : (fo l).length ≤ 3 + 63 * l.length := by
  cases l with
  | nil => decide
  | cons x l =>
    have h1 := fold_len l 1 (fun w hw => h w (by simp [hw]))
    have h2 := h x (by simp)
    simp only [fo, List.length_append, List.length_cons, List.length_nil]
    omega
theorem fl_len (l : List (List UInt8)) (h : ∀ w ∈ l, w.length ≤ 60) : (fl l).length ≤ 61 * l.length := by
  cases l with
  | nil => decide
  | cons x l =>
    have h1 := flat_len l (fun w hw => h w (by simp [hw]))
    have h2 := h x (by simp)
    simp only [fl, flat0, List.length_append, List.length_cons]
    omega
theorem fields_fo (l : List (List UInt8)) (h : ∀ w ∈ l, okW w) (hl : 0 < l.length) : ∃ f g, fieldsL (fo l ++ tailF) = [f, g] ∧ f.value = fl l := by
  cases l with
  | nil => simp at hl
  | cons w ws => exact fields_fold w ws (h w (by simp)) (fun x hx => h x (by simp [hx]))

set_option maxRecDepth 100000 in
theorem sameF_one (g c : Nat) (f : Fld) (w : World) (a0 : w.cell? ⟨g, 4, none⟩ = some (.string (bs f.name))) (a1 : w.cell? ⟨g, 5, none⟩ = some (.string (bs f.value))) (a2 : w.cell? ⟨g, 6, none⟩ = some (.int .i64 f.pos)) (a3 : w.cell? ⟨g, 7, none⟩ = some (.int .i64 f.fin)) :
    Calls Tryd.prog 13 #[.slice (some ⟨g, 4, none⟩) 1 c, .slice (some ⟨g, 4, none⟩) 1 c] w fun e w' => e = .returned (.bool true) ∧ Below w.heap.size w w' := by
  have hg : g < w.heap.size := cell_lt a0
  have A0 := Lib.hid a0
  have A1 := Lib.hid a1
  have A2 := Lib.hid a2
  have A3 := Lib.hid a3
  clear a0 a1 a2 a3
  go_enter Tryd.func13, Tryd.ntmps13
  go_wp2
  go_loopw [5, 13] (fun _ c wr => (c = .int .i64 0 ∨ c = .int .i64 1) ∧ Below w.heap.size w wr) (fun _ c _ => 1 - (intOf c).toNat)
  case atStart => exact ⟨.inl rfl, Below.refl _ _⟩
  case round =>
    obtain ⟨rfl | rfl, hB⟩ := hrel
    · have a0 := (hB.cell (p := ⟨g, 4, none⟩) hg).trans A0.out
      have a1 := (hB.cell (p := ⟨g, 5, none⟩) hg).trans A1.out
      have a2 := (hB.cell (p := ⟨g, 6, none⟩) hg).trans A2.out
      have a3 := (hB.cell (p := ⟨g, 7, none⟩) hg).trans A3.out
      go_wp2
      go_quiet (fail)
      go_wp2
      go_roundw
      case rel => exact ⟨.inr rfl, below_drewN hB _⟩
      case measure => decide
    · go_wp2
      go_ret
      exact ⟨rfl, hB⟩

set_option maxRecDepth 100000 in
set_option maxHeartbeats 4000000 in
theorem headerFolds_some (b o cp : Nat) (ls : List (List UInt8)) (w : World) (hpos : 0 < ls.length) (hb : b < w.heap.size) (hcell : ∀ j, j < ls.length → w.cell? ⟨b, o + j, none⟩ = some (.string (bs (ls.getD j [])))) :
    Calls Tryd.prog 5 #[.slice (some ⟨b, o, none⟩) ls.length cp] w fun e w' => e = .returned (.bool true) ∧ Below w.heap.size w w' := by
  have HCE := Lib.hid hcell
  clear hcell
  go_enter Tryd.func5, Tryd.ntmps5
  go_wp2_with fail
  refine (alive_any _).mono ?_
  rintro e w1 ⟨rfl, hb1⟩
  have hp1 : ¬ (ls.length : Int) < 1 := by omega
  by_cases h50 : 40 < ls.length
  · have h50' : (40 : Int) < ls.length := by omega
    go_wp2
    go_ret
    exact ⟨rfl, hb1⟩
  · have h50' : ¬ (40 : Int) < ls.length := by omega
    go_wp2
    go_loopw [3, 4, 5, 6, 7, 22, 36] (fun v3 v4 _ _ _ v22 _ wr => ∃ k : Nat, k ≤ ls.length ∧ v3 = .string (bs (fo (ls.take k))) ∧ v4 = .string (bs (fl (ls.take k))) ∧ v22 = .int .i64 k ∧ Hid (∀ n ∈ ls.take k, okW n) ∧ Below w.heap.size w wr) (fun _ _ _ _ _ v22 _ _ => ls.length - (intOf v22).toNat)
    case atStart => exact ⟨0, Nat.zero_le _, rfl, rfl, rfl, by intro n hn; simp at hn, hb1⟩
    case round =>
      obtain ⟨k, hk, rfl, rfl, rfl, hok, hB⟩ := hrel
      have hml := fo_len (ls.take k) (fun n hn => (hok.out n hn).2.1)
      have hfl := fl_len (ls.take k) (fun n hn => (hok.out n hn).2.1)
      rw [List.length_take, Nat.min_eq_left hk] at hml hfl
      obtain ⟨M, hM⟩ : ∃ M, fo (ls.take k) = M := ⟨_, rfl⟩
      obtain ⟨F, hF⟩ : ∃ F, fl (ls.take k) = F := ⟨_, rfl⟩
      rw [hM] at hml ⊢
      rw [hF] at hfl ⊢
      have HM := Lib.hid hM
      have HF := Lib.hid hF
      clear hM hF
      have hml2 : M.length ≤ 2600 := by omega
      have hfl2 : F.length ≤ 2600 := by omega
      clear hml hfl
      by_cases hlt : k < ls.length
      · obtain ⟨n, hn⟩ : ∃ n, ls.getD k [] = n := ⟨_, rfl⟩
        have hc : wr.cell? ⟨b, o + k, none⟩ = some (.string (bs n)) := by rw [hB.cell (p := ⟨b, o + k, none⟩) hb, HCE.out k hlt, hn]
        have HN := Lib.hid hn
        have hlt' : (k : Int) < ls.length := by omega
        clear hn
        by_cases h200 : 60 < n.length
        · have h200' : (60 : Int) < n.length := by omega
          go_wp2
          go_ret
          exact ⟨rfl, hB⟩
        · have h200' : ¬ (60 : Int) < n.length := by omega
          by_cases hn0 : n = []
          · subst hn0
            go_wp2
            go_ret
            exact ⟨rfl, hB⟩
          · have hn0' : (n == []) = false := by simpa using hn0
            go_wp2
            go_loopw [7, 36] (fun _ c wq => ∃ i : Nat, i ≤ n.length ∧ c = .int .i64 i ∧ Hid (∀ c ∈ n.take i, okC c = true) ∧ Below w.heap.size w wq) (fun _ c _ => n.length - (intOf c).toNat)
            case atStart => exact ⟨0, Nat.zero_le _, rfl, by intro c hc; simp at hc, hB⟩
            case round =>
              obtain ⟨i, hi, rfl, hoki, hBq⟩ := hrel
              by_cases hli : i < n.length
              · obtain ⟨c, hcc⟩ : ∃ c, (bs n)[i]'(by rw [bs_size]; exact hli) = c := ⟨_, rfl⟩
                have hli' : (i : Int) < n.length := by omega
                have hcg : n[i]? = some c := by rw [List.getElem?_eq_getElem hli]; exact congrArg some hcc
                have HCG := Lib.hid hcg
                clear hcg hc
                by_cases ho : okC c = true
                · obtain ⟨o1, o2⟩ := (ok_bounds c).1 ho
                  have HO : Hid (okC c = true) := ho
                  clear ho
                  go_wp2
                  go_roundw
                  case rel =>
                    refine ⟨i + 1, by omega, by go_num, ?_, hBq⟩
                    intro x hx
                    rw [List.take_add_one, HCG.out] at hx
                    rcases List.mem_append.1 hx with hx | hx
                    · exact hoki.out x hx
                    · have : x = c := by simpa using hx
                      rw [this]; exact HO.out
                  case measure => simp [intOf]; omega
                · have hbb : (c.toNat : Int) < 33 ∨ 33 ≤ (c.toNat : Int) ∧ 126 < (c.toNat : Int) := by
                    have := ok_bounds c
                    rcases Int.lt_or_le (c.toNat : Int) 33 with h1 | h1
                    · exact .inl h1
                    · refine .inr ⟨h1, ?_⟩
                      rcases Int.lt_or_le 126 (c.toNat : Int) with h2 | h2
                      · exact h2
                      · exact absurd (this.2 ⟨h1, h2⟩) ho
                  clear ho
                  rcases hbb with hbb | ⟨hbb, hbb'⟩
                  all_goals
                    go_wp2
                    go_ret
                    exact ⟨rfl, hBq⟩
              · obtain rfl : i = n.length := by omega
                have hokn : Hid (okW n) := ⟨hn0, by omega, by have := hoki.out; rw [List.take_length] at this; exact this⟩
                have HNX : Hid (∀ x ∈ ls.take (k + 1), okW x) := by
                  intro x hx
                  rw [take_snoc hlt HN.out] at hx
                  rcases List.mem_append.1 hx with hx | hx
                  · exact hok.out x hx
                  · have : x = n := by simpa using hx
                    rw [this]; exact hokn.out
                by_cases hk0 : k = 0
                · subst hk0
                  have HSM : Hid (fo (ls.take 1) = M ++ n) := by
                    show _ = _
                    rw [take_snoc hlt HN.out, ← HM.out]; exact fo_one n
                  have HSF : Hid (fl (ls.take 1) = F ++ n) := by
                    show _ = _
                    rw [take_snoc hlt HN.out, ← HF.out]; exact fl_one n
                  clear hn0 hc
                  go_wp2
                  go_roundw
                  case rel => exact ⟨1, by omega, by rw [HSM.out, bs_append], by rw [HSF.out, bs_append], by go_num, HNX, hBq⟩
                  case measure => simp [intOf]; omega
                · have hkp : (0 : Int) < k := by omega
                  have hne : ls.take k ≠ [] := by
                    intro e9
                    have := congrArg List.length e9
                    rw [List.length_take, Nat.min_eq_left hk] at this
                    exact hk0 this
                  have HSM : Hid (fo (ls.take (k + 1)) = (M ++ sepF k) ++ n) := by
                    show _ = _
                    rw [take_snoc hlt HN.out, fo_snoc _ _ hne, HM.out, List.length_take, Nat.min_eq_left hk]
                  have HSF : Hid (fl (ls.take (k + 1)) = (F ++ [32]) ++ n) := by
                    show _ = _
                    rw [take_snoc hlt HN.out, fl_snoc _ _ hne, HF.out]
                  clear hn0 hc hne hk0
                  rcases sepF_cases k with ⟨e3, ev⟩ | ⟨e3, ev⟩ | ⟨e3, ev⟩
                  all_goals
                    have HEV := Lib.hid ev
                    clear ev
                    go_wp2
                    go_roundw
                    case rel =>
                      refine ⟨k + 1, by omega, ?_, ?_, by go_num, HNX, ?_⟩
                      · rw [HSM.out, HEV.out]
                        simp only [bs_append]
                      · rw [HSF.out]
                        simp only [bs_append]
                      · first | exact hBq | exact hBq.alloc (hBq.size) _
                    case measure => simp [intOf]; omega
      · obtain rfl : k = ls.length := by omega
        have HOKA : Hid (∀ n ∈ ls, okW n) := by have := hok.out; rw [List.take_length] at this; exact this
        have HMA : Hid (fo ls = M) := by have := HM.out; rw [List.take_length] at this; exact this
        have HFA : Hid (fl ls = F) := by have := HF.out; rw [List.take_length] at this; exact this
        obtain ⟨f, g, hf1, hf2⟩ := fields_fo ls HOKA.out hpos
        rw [HMA.out] at hf1
        rw [HFA.out] at hf2
        have hcat1 : (bs M ++ ⟨#[13, 10, 66, 58, 32, 99, 13, 10, 13, 10]⟩ : ByteArray) = bs (M ++ tailF) := bs_append M tailF
        obtain ⟨X, hX⟩ : ∃ X, M ++ tailF = X := ⟨_, rfl⟩
        have hxl : X.length ≤ 1000000000 := by rw [← hX]; simp [tailF]; omega
        rw [hX] at hf1 hcat1
        have HF1 := Lib.hid hf1
        have HF2 := Lib.hid hf2
        have HXL := Lib.hid hxl
        clear hf1 hf2 hxl hX
        go_wp2_with fail
        refine (fields_ok X _ HXL.out (by rw [HF1.out]; simp)).mono ?_
        rintro e w4 ⟨v4, rfl, o4, hb4⟩
        have hz4 := hB.trans (hb4.mono hB.size)
        rw [HF1.out] at o4
        obtain ⟨g4, c4, rfl, _, g4l⟩ := o4.parts.resolve_left (fun h => by have := h.2; simp at this)
        have a0 : _ = some (Value.string (bs f.value)) := o4.cell 0 1 f rfl (by decide)
        have b0 : _ = some (Value.string (bs g.name)) := o4.cell 1 0 g rfl (by decide)
        have b1 : _ = some (Value.string (bs g.value)) := o4.cell 1 1 g rfl (by decide)
        have b2 : _ = some (Value.int .i64 g.pos) := o4.cell 1 2 g rfl (by decide)
        have b3 : _ = some (Value.int .i64 g.fin) := o4.cell 1 3 g rfl (by decide)
        rw [HF2.out] at a0
        simp only [Nat.zero_mul, Nat.zero_add, Nat.one_mul, Nat.add_zero, Nat.reduceAdd] at a0 b0 b1 b2 b3
        have hcap : ¬ c4 = 1 := by
          rcases o4.2 with ⟨h', _⟩ | ⟨g', cap', cur, h', _, _, hc, _⟩
          · simp at h'
          · simp at h'
            obtain ⟨_, rfl⟩ := h'
            have hc9 : 2 ≤ c4 := hc
            omega
        have B0 := Lib.hid b0
        have B1 := Lib.hid b1
        have B2 := Lib.hid b2
        have B3 := Lib.hid b3
        clear o4 hcat1 b0 b1 b2 b3
        simp only [List.length_cons, List.length_nil, Nat.zero_add, Nat.reduceAdd]
        go_wp2
        clear HCE hpos h50 hp1 h50' hml2 hfl2 HF1 HF2 HXL
        have hS := sameF_one g4 (c4 - 1) g w4.drew B0.out B1.out B2.out B3.out
        have HS := Lib.hid hS
        clear hS B0 B1 B2 B3
        refine wp_region_any (by kernel_rfl) ?_
        try (change wpAny _ _ _ _ _ _ _ (World.drew _))
        refine wpAny_take (i := 0) (v := ?_) rfl (by kernel_rfl) (by kernel_rfl) (by kernel_rfl) (fun _ _ _ h => h) (Or.inl ⟨by rfl, ?_⟩) ?_
        rotate_left
        · intro w
          go_simp
          try (with_reducible rfl)
        simp only [List.getElem_toArray, List.getElem_cons_succ, List.getElem_cons_zero, Act.put, List.setIfInBounds_toArray, List.set_cons_succ, List.set_cons_zero]
        refine wpAny_take (i := 1) (v := ?_) rfl (by kernel_rfl) (by kernel_rfl) (by kernel_rfl) (fun _ _ _ h => h) (Or.inl ⟨by rfl, ?_⟩) ?_
        rotate_left
        · intro w
          go_simp
          try (with_reducible rfl)
        simp only [List.getElem_toArray, List.getElem_cons_succ, List.getElem_cons_zero, Act.put, List.setIfInBounds_toArray, List.set_cons_succ, List.set_cons_zero]
        refine wpAny_take (i := 2) (v := ?_) rfl (by kernel_rfl) (by kernel_rfl) (by kernel_rfl) (fun _ _ _ h => h) (Or.inl ⟨by rfl, ?_⟩) ?_
        rotate_left
        · intro w
          go_simp
          try (with_reducible rfl)
        simp only [List.getElem_toArray, List.getElem_cons_succ, List.getElem_cons_zero, Act.put, List.setIfInBounds_toArray, List.set_cons_succ, List.set_cons_zero]
        refine wpAny_take (i := 3) (v := ?_) rfl (by kernel_rfl) (by kernel_rfl) (by kernel_rfl) (fun _ _ _ h => h) (Or.inl ⟨by rfl, ?_⟩) ?_
        rotate_left
        · intro w
          go_simp
          try (with_reducible rfl)
        simp only [List.getElem_toArray, List.getElem_cons_succ, List.getElem_cons_zero, Act.put, List.setIfInBounds_toArray, List.set_cons_succ, List.set_cons_zero]
        refine wpAny_take (i := 4) (v := ?_) rfl (by kernel_rfl) (by kernel_rfl) (by kernel_rfl) (fun _ _ _ h => h) (Or.inl ⟨by rfl, ?_⟩) ?_
        rotate_left
        · intro w
          go_simp
          try (with_reducible rfl)
        simp only [List.getElem_toArray, List.getElem_cons_succ, List.getElem_cons_zero, Act.put, List.setIfInBounds_toArray, List.set_cons_succ, List.set_cons_zero]
        refine wpAny_take (i := 5) (v := ?_) rfl (by kernel_rfl) (by kernel_rfl) (by kernel_rfl) (fun _ _ _ h => h) (Or.inl ⟨by rfl, ?_⟩) ?_
        rotate_left
        · intro w
          go_simp
          try (with_reducible rfl)
        simp only [List.getElem_toArray, List.getElem_cons_succ, List.getElem_cons_zero, Act.put, List.setIfInBounds_toArray, List.set_cons_succ, List.set_cons_zero]
        refine wpAny_take (i := 6) (v := ?_) rfl (by kernel_rfl) (by kernel_rfl) (by kernel_rfl) (fun _ _ _ h => h) (Or.inl ⟨by rfl, ?_⟩) ?_
        rotate_left
        · intro w
          go_simp
          try (with_reducible rfl)
        simp only [List.getElem_toArray, List.getElem_cons_succ, List.getElem_cons_zero, Act.put, List.setIfInBounds_toArray, List.set_cons_succ, List.set_cons_zero]
        refine wpAny_take (i := 7) (v := ?_) rfl (by kernel_rfl) (by kernel_rfl) (by kernel_rfl) (fun _ _ _ h => h) (Or.inl ⟨by rfl, ?_⟩) ?_
        rotate_left
        · intro w
          go_simp
          try (with_reducible rfl)
        simp only [List.getElem_toArray, List.getElem_cons_succ, List.getElem_cons_zero, Act.put, List.setIfInBounds_toArray, List.set_cons_succ, List.set_cons_zero]
        refine wpAny_take (i := 8) (v := ?_) rfl (by kernel_rfl) (by kernel_rfl) (by kernel_rfl) (fun _ _ _ h => h) (Or.inl ⟨by rfl, ?_⟩) ?_
        rotate_left
        · intro w
          go_simp
          try (with_reducible rfl)
        simp only [List.getElem_toArray, List.getElem_cons_succ, List.getElem_cons_zero, Act.put, List.setIfInBounds_toArray, List.set_cons_succ, List.set_cons_zero]
        refine wpAny_take (i := 9) (v := ?_) rfl (by kernel_rfl) (by kernel_rfl) (by kernel_rfl) (fun _ _ _ h => h) (Or.inl ⟨by rfl, ?_⟩) ?_
        rotate_left
        · intro w
          go_simp
          try (with_reducible rfl)
        simp only [List.getElem_toArray, List.getElem_cons_succ, List.getElem_cons_zero, Act.put, List.setIfInBounds_toArray, List.set_cons_succ, List.set_cons_zero]
        refine wpAny_take (i := 10) (v := ?_) rfl (by kernel_rfl) (by kernel_rfl) (by kernel_rfl) (fun _ _ _ h => h) (Or.inl ⟨by rfl, ?_⟩) ?_
        rotate_left
        · intro w
          go_simp
          try (with_reducible rfl)
        simp only [List.getElem_toArray, List.getElem_cons_succ, List.getElem_cons_zero, Act.put, List.setIfInBounds_toArray, List.set_cons_succ, List.set_cons_zero]
        refine wpAny_take (i := 12) (v := ?_) rfl (by kernel_rfl) (by kernel_rfl) (by kernel_rfl) (fun _ _ _ h => h) (Or.inl ⟨by rfl, ?_⟩) ?_
        rotate_left
        · intro w
          go_simp
          try (with_reducible rfl)
        simp only [List.getElem_toArray, List.getElem_cons_succ, List.getElem_cons_zero, Act.put, List.setIfInBounds_toArray, List.set_cons_succ, List.set_cons_zero]
        refine wpAny_ready (rs := [11]) (by kernel_rfl) (by simp) ?_
        refine AllReady.cons rfl (fun K hK => ?_) AllReady.nil
        go_simp
        refine hK _ _ ?_
        clear hK K
        refine wpAny_take (i := 13) (v := ?_) rfl (by kernel_rfl) (by kernel_rfl) (by kernel_rfl) (fun _ _ _ h => h) (Or.inl ⟨by rfl, ?_⟩) ?_
        rotate_left
        · intro w
          go_simp
          try (with_reducible rfl)
        simp only [List.getElem_toArray, List.getElem_cons_succ, List.getElem_cons_zero, Act.put, List.setIfInBounds_toArray, List.set_cons_succ, List.set_cons_zero]
        refine wpAny_take (i := 14) (v := ?_) rfl (by kernel_rfl) (by kernel_rfl) (by kernel_rfl) (fun _ _ _ h => h) (Or.inl ⟨by rfl, ?_⟩) ?_
        rotate_left
        · intro w
          go_simp
          try (with_reducible rfl)
        simp only [List.getElem_toArray, List.getElem_cons_succ, List.getElem_cons_zero, Act.put, List.setIfInBounds_toArray, List.set_cons_succ, List.set_cons_zero]
        refine wpAny_take (i := 15) (v := ?_) rfl (by kernel_rfl) (by kernel_rfl) (by kernel_rfl) (fun _ _ _ h => h) (Or.inl ⟨by rfl, ?_⟩) ?_
        rotate_left
        · intro w
          go_simp
          try (with_reducible rfl)
        simp only [List.getElem_toArray, List.getElem_cons_succ, List.getElem_cons_zero, Act.put, List.setIfInBounds_toArray, List.set_cons_succ, List.set_cons_zero]
        refine wpAny_take (i := 16) (v := ?_) rfl (by kernel_rfl) (by kernel_rfl) (by kernel_rfl) (fun _ _ _ h => h) (Or.inl ⟨by rfl, ?_⟩) ?_
        rotate_left
        · intro w
          go_simp
          try (with_reducible rfl)
        simp only [List.getElem_toArray, List.getElem_cons_succ, List.getElem_cons_zero, Act.put, List.setIfInBounds_toArray, List.set_cons_succ, List.set_cons_zero]
        refine wpAny_take (i := 17) (v := ?_) rfl (by kernel_rfl) (by kernel_rfl) (by kernel_rfl) (fun _ _ _ h => h) (Or.inl ⟨by rfl, ?_⟩) ?_
        rotate_left
        · intro w
          go_simp
          try (with_reducible rfl)
        simp only [List.getElem_toArray, List.getElem_cons_succ, List.getElem_cons_zero, Act.put, List.setIfInBounds_toArray, List.set_cons_succ, List.set_cons_zero]
        refine wpAny_take (i := 18) (v := ?_) rfl (by kernel_rfl) (by kernel_rfl) (by kernel_rfl) (fun _ _ _ h => h) (Or.inl ⟨by rfl, ?_⟩) ?_
        rotate_left
        · intro w
          go_simp
          try (with_reducible rfl)
        simp only [List.getElem_toArray, List.getElem_cons_succ, List.getElem_cons_zero, Act.put, List.setIfInBounds_toArray, List.set_cons_succ, List.set_cons_zero]
        refine wpAny_take (i := 19) (v := ?_) rfl (by kernel_rfl) (by kernel_rfl) (by kernel_rfl) (fun _ _ _ h => h) (Or.inl ⟨by rfl, ?_⟩) ?_
        rotate_left
        · intro w
          go_simp
          try (with_reducible rfl)
        simp only [List.getElem_toArray, List.getElem_cons_succ, List.getElem_cons_zero, Act.put, List.setIfInBounds_toArray, List.set_cons_succ, List.set_cons_zero]
        refine wpAny_ready (rs := [20]) (by kernel_rfl) (by simp) ?_
        refine AllReady.cons rfl (fun K hK => ?_) AllReady.nil
        go_simp
        refine HS.out.mono ?_
        rintro e w5 ⟨rfl, hb5⟩
        go_wp2
        refine wpAny_take (i := 21) (v := ?_) rfl (by kernel_rfl) (by kernel_rfl) (by kernel_rfl) (fun _ _ _ h => h) (Or.inl ⟨by rfl, ?_⟩) ?_
        rotate_left
        · intro w
          go_simp
          try (with_reducible rfl)
        simp only [List.getElem_toArray, List.getElem_cons_succ, List.getElem_cons_zero, Act.put, List.setIfInBounds_toArray, List.set_cons_succ, List.set_cons_zero]
        refine wpAny_take (i := 22) (v := ?_) rfl (by kernel_rfl) (by kernel_rfl) (by kernel_rfl) (fun _ _ _ h => h) (Or.inl ⟨by rfl, ?_⟩) ?_
        rotate_left
        · intro w
          go_simp
          try (with_reducible rfl)
        simp only [List.getElem_toArray, List.getElem_cons_succ, List.getElem_cons_zero, Act.put, List.setIfInBounds_toArray, List.set_cons_succ, List.set_cons_zero]
        refine wpAny_done (by kernel_rfl) ?_ _
        all_goals
          go_wp2
          go_ret
          exact ⟨rfl, hz4.trans ((below_drewN (Below.refl _ _) _ |>.trans hb5).mono hz4.size)⟩

theorem headerFolds_any (v : Value) (ls : List (List UInt8)) (w : World) (hv : ArgS w v ls) : Calls Tryd.prog 5 #[v] w fun e w' => e = .returned (.bool true) ∧ Below w.heap.size w w' := by
  rcases hv with ⟨a, c, rfl, rfl⟩ | ⟨b, o, c, rfl, h1, h2, h3⟩
  · go_enter Tryd.func5, Tryd.ntmps5
    go_wp2_with fail
    refine (alive_any _).mono ?_
    rintro e w1 ⟨rfl, hb1⟩
    go_wp2
    go_ret
    exact ⟨rfl, hb1⟩
  · exact headerFolds_some b o c ls w h1 h2 h3

end Go.Proofs.YtplmekfcnggigaaDoor
