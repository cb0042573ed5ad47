/- The law HeaderBodies. -/
import Derived.Test.YtplmekfcnggigaaDoorH7
import Derived.Test.YtplmekfcnggigaaDoorHE
import Derived.Test.YtplmekfcnggigaaDoorOs
set_option linter.unusedVariables false
set_option linter.unusedSimpArgs false
namespace Go.Proofs.YtplmekfcnggigaaDoor
open Go.RowKit

theorem vB_cases (k : Nat) : ((k : Int).tmod 3 = 0 ∧ vB k = [120]) ∨ ((k : Int).tmod 3 = 1 ∧ vB k = [121, 32, 122]) ∨ ((k : Int).tmod 3 = 2 ∧ vB k = []) := by
  have h : (k : Int).tmod 3 = ((k % 3 : Nat) : Int) := by rw [Int.tmod_eq_emod_of_nonneg (by omega)]; omega
  rw [h]
  unfold vB
  rcases (by omega : k % 3 = 0 ∨ k % 3 = 1 ∨ k % 3 = 2) with e | e | e <;> simp [e]

theorem take_snoc {ls : List (List UInt8)} {k : Nat} (h : k < ls.length) {n : List UInt8} (hn : ls.getD k [] = n) : ls.take (k + 1) = ls.take k ++ [n] := by
  rw [List.take_add_one, List.getElem?_eq_getElem h, ← hn, List.getD_eq_getElem?_getD, List.getElem?_eq_getElem h]; rfl
theorem head_snoc {ls : List (List UInt8)} {k : Nat} (h : k < ls.length) {n : List UInt8} (hn : ls.getD k [] = n) : headB 0 (ls.take (k + 1)) = headB 0 (ls.take k) ++ lineB k n := by
  rw [take_snoc h hn, headB_snoc]
  congr 2
  simp; omega

set_option maxRecDepth 100000 in
set_option maxHeartbeats 4000000 in
theorem headerBodies_some (b o cp : Nat) (ls : List (List UInt8)) (body : List UInt8) (w : World) (hpos : 0 < ls.length) (hb : b < w.heap.size) (hcell : ∀ j, j < ls.length → w.cell? ⟨b, o + j, none⟩ = some (.string (bs (ls.getD j [])))) :
    Calls Tryd.prog 3 #[.slice (some ⟨b, o, none⟩) ls.length cp, .string (bs body)] w fun e w' => e = .returned (.bool true) ∧ Below w.heap.size w w' := by
  have HCE := Lib.hid hcell
  clear hcell
  go_enter Tryd.func3, Tryd.ntmps3
  go_wp2_with fail
  refine (alive_any _).mono ?_
  rintro e w1 ⟨rfl, hb1⟩
  by_cases h50 : 50 < ls.length
  · have h50' : (50 : Int) < ls.length := by omega
    go_wp2
    go_ret
    exact ⟨rfl, hb1⟩
  · have h50' : ¬ (50 : Int) < ls.length := by omega
    by_cases hbd : 10000 < body.length
    · have hbd' : (10000 : Int) < body.length := by omega
      go_wp2
      go_ret
      exact ⟨rfl, hb1⟩
    · have hbd' : ¬ (10000 : Int) < body.length := by omega
      go_wp2
      go_loopw [5, 6, 7, 8, 25, 35] (fun v5 _ _ _ v25 _ wr => ∃ k : Nat, k ≤ ls.length ∧ v5 = .string (bs (headB 0 (ls.take k))) ∧ v25 = .int .i64 k ∧ Hid (∀ n ∈ ls.take k, okN n) ∧ Below w.heap.size w wr) (fun _ _ _ _ v25 _ _ => ls.length - (intOf v25).toNat)
      case atStart => exact ⟨0, Nat.zero_le _, rfl, rfl, by intro n hn; simp at hn, hb1⟩
      case round =>
        obtain ⟨k, hk, rfl, rfl, hok, hB⟩ := hrel
        have hml := headB_len (ls.take k) 0 (fun n hn => (hok.out n hn).2.1)
        rw [List.length_take, Nat.min_eq_left hk] at hml
        obtain ⟨M, hM⟩ : ∃ M, headB 0 (ls.take k) = M := ⟨_, rfl⟩
        rw [hM] at hml ⊢
        have HM := Lib.hid hM
        clear hM
        by_cases hlt : k < ls.length
        · obtain ⟨n, hn⟩ : ∃ n, ls.getD k [] = n := ⟨_, rfl⟩
          have hc : wr.cell? ⟨b, o + k, none⟩ = some (.string (bs n)) := by rw [hB.cell (p := ⟨b, o + k, none⟩) hb, HCE.out k hlt, hn]
          have HN := Lib.hid hn
          have hlt' : (k : Int) < ls.length := by omega
          have hml2 : M.length ≤ 10350 := by omega
          clear hn hml
          by_cases h200 : 200 < n.length
          · have h200' : (200 : Int) < n.length := by omega
            go_wp2
            go_ret
            exact ⟨rfl, hB⟩
          · have h200' : ¬ (200 : Int) < n.length := by omega
            go_wp2
            go_loopw [8, 35] (fun _ c wq => ∃ i : Nat, i ≤ n.length ∧ c = .int .i64 i ∧ Hid (∀ c ∈ n.take i, okC c = true ∧ c ≠ 58) ∧ Below w.heap.size w wq) (fun _ c _ => n.length - (intOf c).toNat)
            case atStart => exact ⟨0, Nat.zero_le _, rfl, by intro c hc; simp at hc, hB⟩
            case round =>
              obtain ⟨i, hi, rfl, hoki, hBq⟩ := hrel
              by_cases hli : i < n.length
              · obtain ⟨c, hcc⟩ : ∃ c, (bs n)[i]'(by rw [bs_size]; exact hli) = c := ⟨_, rfl⟩
                have hli' : (i : Int) < n.length := by omega
                have hcg : n[i]? = some c := by rw [List.getElem?_eq_getElem hli]; exact congrArg some hcc
                have HCG := Lib.hid hcg
                clear hcg hc
                by_cases ho : okC c = true
                · obtain ⟨o1, o2⟩ := (ok_bounds c).1 ho
                  by_cases h58 : c = 58
                  · subst h58
                    go_wp2
                    go_ret
                    exact ⟨rfl, hBq⟩
                  · have hne := byte_ne (d := 58) (n := 58) rfl h58
                    have HO : Hid (okC c = true ∧ c ≠ 58) := ⟨ho, h58⟩
                    clear ho h58
                    go_wp2
                    go_roundw
                    case rel =>
                      refine ⟨i + 1, by omega, by go_num, ?_, hBq⟩
                      intro x hx
                      rw [List.take_add_one, HCG.out] at hx
                      rcases List.mem_append.1 hx with hx | hx
                      · exact hoki.out x hx
                      · have : x = c := by simpa using hx
                        rw [this]; exact HO.out
                    case measure => simp [intOf]; omega
                · have hbb : (c.toNat : Int) < 33 ∨ 33 ≤ (c.toNat : Int) ∧ 126 < (c.toNat : Int) := by
                    have := ok_bounds c
                    rcases Int.lt_or_le (c.toNat : Int) 33 with h1 | h1
                    · exact .inl h1
                    · refine .inr ⟨h1, ?_⟩
                      rcases Int.lt_or_le 126 (c.toNat : Int) with h2 | h2
                      · exact h2
                      · exact absurd (this.2 ⟨h1, h2⟩) ho
                  clear ho
                  rcases hbb with hbb | ⟨hbb, hbb'⟩
                  all_goals
                    go_wp2
                    go_ret
                    exact ⟨rfl, hBq⟩
              · obtain rfl : i = n.length := by omega
                by_cases hn0 : n = []
                · subst hn0
                  go_wp2
                  go_ret
                  exact ⟨rfl, hBq⟩
                · have hn0' : (n == []) = false := by simpa using hn0
                  have hokn : Hid (okN n) := ⟨hn0, by omega, by have := hoki.out; rw [List.take_length] at this; exact this⟩
                  have HNX : Hid (∀ x ∈ ls.take (k + 1), okN x) := by
                    intro x hx
                    rw [take_snoc hlt HN.out] at hx
                    rcases List.mem_append.1 hx with hx | hx
                    · exact hok.out x hx
                    · have : x = n := by simpa using hx
                      rw [this]; exact hokn.out
                  have HSN : Hid (headB 0 (ls.take (k + 1)) = M ++ lineB k n) := by show _ = _; rw [head_snoc hlt HN.out, HM.out]
                  clear hn0 hc
                  rcases vB_cases k with ⟨e3, ev⟩ | ⟨e3, ev⟩ | ⟨e3, ev⟩
                  all_goals
                    have HEV := Lib.hid ev
                    clear ev
                    go_wp2
                    go_roundw
                    case rel =>
                      refine ⟨k + 1, by omega, ?_, by go_num, HNX, ?_⟩
                      · rw [HSN.out, lineB, HEV.out]
                        simp only [bs_append]
                      · first | exact hBq | exact hBq.alloc (hBq.size) _ 
                    case measure => simp [intOf]; omega
        · obtain rfl : k = ls.length := by omega
          have HOKA : Hid (∀ n ∈ ls, okN n) := by have := hok.out; rw [List.take_length] at this; exact this
          have HMA : Hid (headB 0 ls = M) := by have := HM.out; rw [List.take_length] at this; exact this
          obtain ⟨hf1, hf2, hf3⟩ := fields_head body ls HOKA.out
          rw [HMA.out] at hf1 hf2 hf3
          have hcat1 : (bs M ++ ⟨#[13, 10]⟩ : ByteArray) = bs (M ++ [13, 10]) := bs_append M [13, 10]
          have hcat2 : (bs (M ++ [13, 10]) ++ bs body : ByteArray) = bs ((M ++ [13, 10]) ++ body) := (bs_append (M ++ [13, 10]) body)
          have hml2 : M.length ≤ 10350 := by omega
          obtain ⟨X, hX⟩ : ∃ X, (M ++ [13, 10]) ++ body = X := ⟨_, rfl⟩
          have hxl : X.length ≤ 1000000000 := by rw [← hX]; simp; omega
          rw [hX] at hf1 hf2 hf3 hcat2
          have HF1 := Lib.hid hf1
          have HF2 := Lib.hid hf2
          have HF3 := Lib.hid hf3
          have HXL := Lib.hid hxl
          clear hf1 hf2 hf3 hxl hX hml
          go_wp2_with fail
          refine (body_any X _ HXL.out).mono ?_
          rintro e w3 ⟨rfl, hb3⟩
          rw [HF2.out]
          have hz3 := hB.trans (hb3.mono hB.size)
          go_wp2_with fail
          refine (fields_ok X _ HXL.out (by rw [HF1.out]; omega)).mono ?_
          rintro e w4 ⟨v4, rfl, o4, hb4⟩
          have hz4 := hz3.trans (hb4.mono hz3.size)
          obtain ⟨fs, hfs⟩ : ∃ fs, fieldsL X = fs := ⟨_, rfl⟩
          rw [hfs] at o4
          have hfl : Hid (fs.length = ls.length) := by show _ = _; rw [← hfs]; exact HF1.out
          have HF4 : Hid (∀ j, j < ls.length → ∃ f, fs[j]? = some f ∧ f.name = ls.getD j [] ∧ f.value = vB j) := by rw [← hfs]; exact HF3.out
          obtain ⟨g4, c4, rfl, _, g4l⟩ := o4.parts.resolve_left (fun h => by have h9 := hfl.out; rw [h.2] at h9; simp at h9; omega)
          rw [hfl.out] at o4 ⊢
          have HO4 := Lib.hid o4
          clear hfs o4 hcat1 hcat2 hb4 hb3
          go_wp2
          go_loopw [12, 100] (fun _ c wr => ∃ j : Nat, j ≤ ls.length ∧ c = .int .i64 j ∧ Below w4.heap.size w4 wr) (fun _ c _ => ls.length - (intOf c).toNat)
          case atStart => exact ⟨0, Nat.zero_le _, rfl, Below.refl _ _⟩
          case round =>
            obtain ⟨j, hj, rfl, hBr⟩ := hrel
            have hzr := hz4.trans (hBr.mono hz4.size)
            by_cases hlt : j < ls.length
            · obtain ⟨f, hf, hfn, hfv⟩ := HF4.out j hlt
              obtain ⟨n, hn⟩ : ∃ n, ls.getD j [] = n := ⟨_, rfl⟩
              rw [hn] at hfn
              have ho := HO4.out.below hBr
              have a0 : _ = some (Value.string (bs f.name)) := ho.cell j 0 f hf (by decide)
              have a1 : _ = some (Value.string (bs f.value)) := ho.cell j 1 f hf (by decide)
              rw [Nat.add_zero] at a0
              rw [hfn] at a0
              rw [hfv] at a1
              have hc : wr.cell? ⟨b, o + j, none⟩ = some (.string (bs n)) := by rw [hzr.cell (p := ⟨b, o + j, none⟩) hb, HCE.out j hlt, hn]
              have hlt' : (j : Int) < ls.length := by omega
              clear hf hfn hfv hn ho
              rcases vB_cases j with ⟨e3, ev⟩ | ⟨e3, ev⟩ | ⟨e3, ev⟩
              all_goals
                rw [ev] at a1
                clear ev
                have A1 := fun x => cell_alloc a1 x
                go_wp2
                go_region
                all_goals
                  go_wp2
                  go_roundw
                  case rel => exact ⟨j + 1, by omega, by go_num, by first | exact below_drewN hBr _ | exact below_drewN (hBr.alloc hBr.size _) _⟩
                  case measure => simp [intOf]; omega
            · obtain rfl : j = ls.length := by omega
              go_wp2
              go_ret
              exact ⟨rfl, hzr⟩

set_option maxRecDepth 100000 in
set_option maxHeartbeats 1000000 in
theorem headerBodies_none (a : Option Addr) (c : Nat) (body : List UInt8) (w : World) :
    Calls Tryd.prog 3 #[.slice a 0 c, .string (bs body)] w fun e w' => e = .returned (.bool true) ∧ Below w.heap.size w w' := by
  go_enter Tryd.func3, Tryd.ntmps3
  go_wp2_with fail
  refine (alive_any _).mono ?_
  rintro e w1 ⟨rfl, hb1⟩
  by_cases hbd : 10000 < body.length
  · have hbd' : (10000 : Int) < body.length := by omega
    go_wp2
    go_ret
    exact ⟨rfl, hb1⟩
  · have hbd' : ¬ (10000 : Int) < body.length := by omega
    obtain ⟨hf1, hf2, hf3⟩ := fields_head body [] (fun n hn => by cases hn)
    have hcat2 : (bs [13, 10] ++ bs body : ByteArray) = bs ([13, 10] ++ body) := (bs_append [13, 10] body)
    obtain ⟨X, hX⟩ : ∃ X, [13, 10] ++ body = X := ⟨_, rfl⟩
    have hxl : X.length ≤ 1000000000 := by rw [← hX]; simp; omega
    rw [show (headB 0 [] ++ [13, 10]) ++ body = X from hX] at hf1 hf2
    have HCAT : Hid ((bs [] ++ ⟨#[13, 10]⟩ ++ bs body : ByteArray) = bs X) := by
      show bs [] ++ bs [13, 10] ++ bs body = bs X
      rw [bs_append, bs_append, ← hX]; rfl
    have HF1 := Lib.hid hf1
    have HF2 := Lib.hid hf2
    have HXL := Lib.hid hxl
    clear hf1 hf2 hf3 hxl hX hcat2
    go_wp2
    go_loopw [5, 6, 7, 8, 25, 35] (fun v5 _ _ _ v25 _ wr => v5 = .string (bs []) ∧ v25 = .int .i64 0 ∧ wr = w1) (fun _ _ _ _ _ _ _ => 0)
    case atStart => exact ⟨rfl, rfl, rfl⟩
    case round =>
      obtain ⟨rfl, rfl, rfl⟩ := hrel
      have hcat := HCAT.out
      go_wp2_with fail
      refine (body_any X _ HXL.out).mono ?_
      rintro e w3 ⟨rfl, hb3⟩
      rw [HF2.out]
      have hz3 := hb1.trans (hb3.mono hb1.size)
      go_wp2_with fail
      refine (fields_ok X _ HXL.out (by rw [HF1.out]; simp)).mono ?_
      rintro e w4 ⟨v4, rfl, o4, hb4⟩
      have hz4 := hz3.trans (hb4.mono hz3.size)
      obtain ⟨a4, n4, c4, rfl, hn4⟩ := OwnF.form o4
      have hn5 : n4 = 0 := by rw [hn4.out, HF1.out]; rfl
      subst hn5
      clear o4 hcat
      go_wp2
      go_loopw [12, 100] (fun _ c wr => c = .int .i64 0 ∧ wr = w4) (fun _ _ _ => 0)
      case atStart => exact ⟨rfl, rfl⟩
      case round =>
        obtain ⟨rfl, rfl⟩ := hrel
        go_wp2
        go_ret
        exact ⟨rfl, hz4⟩

theorem headerBodies_any (v : Value) (ls : List (List UInt8)) (s : ByteArray) (w : World) (hv : ArgS w v ls) (_ : s.size ≤ 9223372036854775807) : Calls Tryd.prog 3 #[v, .string s] w fun e w' => e = .returned (.bool true) ∧ Below w.heap.size w w' := by
  rcases hv with ⟨a, c, rfl, rfl⟩ | ⟨b, o, c, rfl, h1, h2, h3⟩
  · exact headerBodies_none a c s.data.toList w
  · exact headerBodies_some b o c ls s.data.toList w h1 h2 h3

end Go.Proofs.YtplmekfcnggigaaDoor
