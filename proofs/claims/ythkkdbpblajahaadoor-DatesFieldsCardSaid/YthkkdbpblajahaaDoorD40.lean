/- dates.ParseMail: what it hands back. -/
import Derived.Test.YthkkdbpblajahaaDoorD32
import Derived.Test.YthkkdbpblajahaaDoorDr
import Derived.Test.YthkkdbpblajahaaDoorDw
import Derived.Test.YthkkdbpblajahaaDoorSs
set_option linter.unusedVariables false
set_option linter.unusedSimpArgs false
namespace Go.Proofs.YthkkdbpblajahaaDoor
open Go.RowKit Go

theorem joinB_lib : ∀ ws : List (List UInt8), Lib.join ws [32] = joinB ws
  | [] => rfl
  | [w] => by simp [Lib.join, joinB]
  | w :: v :: ws => by
    have h : Lib.join (w :: v :: ws) [32] = w ++ ([32] ++ Lib.join (v :: ws) [32]) := rfl
    rw [h, joinB_lib (v :: ws)]
    rfl
theorem words_len : ∀ (l cur : List UInt8), (joinB (wordsGo cur l)).length ≤ cur.length + l.length
  | [], cur => by
    unfold wordsGo
    split
    · simp [joinB]
    · simp [joinB]
  | c :: l, cur => by
    unfold wordsGo
    by_cases hc : blankC c = true
    · rw [if_pos hc]
      have ih := words_len l []
      split
      · simp at ih ⊢; omega
      · by_cases hn : wordsGo [] l = []
        · rw [hn]; simp [joinB]
        · rw [joinB_cons _ hn]
          simp at ih ⊢
          omega
    · rw [if_neg hc]
      have ih := words_len l (cur ++ [c])
      simp at ih ⊢
      omega
theorem words_count : ∀ (l cur : List UInt8), (wordsGo cur l).length ≤ l.length + 1
  | [], cur => by
    unfold wordsGo
    split <;> simp
  | c :: l, cur => by
    unfold wordsGo
    have i1 := words_count l []
    have i2 := words_count l (cur ++ [c])
    split
    · split
      · simp; omega
      · simp; omega
    · simp; omega

theorem zone_ruleMail (l : List UInt8) : zoneIn (ruleMail l) := by
  intro d r h
  unfold ruleMail at h
  simp only [Option.bind_eq_some_iff] at h
  obtain ⟨q, _, q0, _, r1, _, q2, _, r3, _, q4, _, r5, _, q6, _, r7, _, q8, _, q10, _, r11, _, q12, hz, h⟩ := h
  obtain ⟨rfl, _⟩ := Prod.mk.inj (Option.some.inj h)
  have := zone_bd (z := q12.1) (r := q12.2) hz
  exact ⟨this.1, this.2.1⟩

theorem readMail_any (l : List UInt8) (w : World) (a a0 : Addr) (hc : w.cell? ⟨1, 0, none⟩ = some (errV a)) (hc0 : w.cell? ⟨0, 0, none⟩ = some (errV a0)) (hl : l.length ≤ 140737488355328) :
    Calls Tryd.prog 42 #[.string (bs l), .func (.func 74) #[] #[]] w fun e w' => e = .returned (outV a a0 (readV (ruleMail l))) ∧ Below w.heap.size w w' := by
  have hz := zone_ruleMail l
  have hF := fun (b : Nat) (w1 : World) (h1 : ScAt w1 b l) (h2 : w1.cell? ⟨1, 0, none⟩ = some (errV a)) (h3 : 1 ≠ b) => ruleMail_any b l w1 a h2 h3 h1 hl
  obtain ⟨R, hR⟩ : ∃ R, ruleMail l = R := ⟨_, rfl⟩
  rw [hR] at hz hF ⊢
  rcases R with _ | ⟨⟨⟨y, m, d, h, mi, s⟩, z⟩, r⟩
  · exact readMail_bad l w a hc hl hF
  · have hzb := hz _ _ rfl
    by_cases hr : r = []
    · subst hr
      by_cases hg : Cal.right y m d h mi s
      · by_cases ho : 0 ≤ Cal.mom y m d h mi s - z ∧ Cal.mom y m d h mi s - z ≤ 4102444799
        · have e : readV (some (((y, m, d, h, mi, s), z), [])) = .good (Cal.mom y m d h mi s - z) := by unfold readV; dsimp only; rw [if_neg (by simp), if_neg (by simpa using hg), if_pos ho]
          rw [e]
          exact readMail_good l w a a0 hc hc0 hl y m d h mi s z hg hzb ho hF
        · have e : readV (some (((y, m, d, h, mi, s), z), [])) = .bad 0 := by unfold readV; dsimp only; rw [if_neg (by simp), if_neg (by simpa using hg), if_neg ho]
          rw [e]
          exact readMail_out l w a a0 hc hc0 hl y m d h mi s z hg hzb (by omega) hF
      · have e : readV (some (((y, m, d, h, mi, s), z), [])) = .bad 0 := by unfold readV; dsimp only; rw [if_neg (by simp), if_pos hg]
        rw [e]
        exact readMail_wrong l w a a0 hc hc0 hl y m d h mi s z hg hF
    · have e : readV (some (((y, m, d, h, mi, s), z), r)) = .bad 1 := by unfold readV; dsimp only; rw [if_pos hr]
      rw [e]
      exact readMail_rest l w a hc hl y m d h mi s z r hr hF

set_option maxRecDepth 100000 in
theorem blank_pred (x : Nat) (w : World) : Calls Tryd.prog 72 #[.int .i32 x] w fun e w' => e = .returned (.bool (blankR x)) ∧ Below w.heap.size w w' := by
  have e32 : ((x : Int) == 32) = (x == 32) := by
    rw [Bool.eq_iff_iff]; simp; omega
  have e9 : ((x : Int) == 9) = (x == 9) := by
    rw [Bool.eq_iff_iff]; simp; omega
  unfold blankR
  rw [← e32, ← e9]
  rcases h1 : ((x : Int) == 32) with _ | _
  · rcases h2 : ((x : Int) == 9) with _ | _
    all_goals
      clear e32 e9
      go_enter Tryd.func72, Tryd.ntmps72
      go_wp2
      go_ret
      exact ⟨rfl, Below.refl _ _⟩
  · clear e32 e9
    go_enter Tryd.func72, Tryd.ntmps72
    go_wp2
    go_ret
    exact ⟨rfl, Below.refl _ _⟩

theorem fieldsFunc_any (l : List UInt8) (w : World) (hl : l.length ≤ 4294967296) : Calls Tryd.prog 71 #[.string (bs l), .func (.func 72) #[] #[]] w fun e w' => ∃ v, e = .returned v ∧ OwnS w' w.heap.size v (wordsGo [] l) ∧ Below w.heap.size w w' := by
  have hw := fields_words l
  have hg : Lib.goFieldsP blankR (bs l) = (wordsGo [] l).map bs := by
    rw [← hw, List.map_map]
    conv => lhs; rw [← List.map_id (Lib.goFieldsP blankR (bs l))]
    refine List.map_congr_left fun s _ => ?_
    simp only [Function.comp_apply, id_eq]
  refine (Tryd.strings_FieldsFunc_grows 72 #[] (enters_of Tryd.func72 (by kernel_rfl) rfl) blankR (bs l) w (by rw [bs_size]; exact hl) (fun W x _ _ => blank_pred x W)).mono ?_
  rintro e w' ⟨A, rfl, hA, ho, hb⟩
  rw [hg] at ho ⊢
  refine ⟨_, rfl, ?_, hb⟩
  unfold OwnS cellsS
  rw [List.map_map, List.length_map] at ho
  rw [List.length_map]
  exact ho

/-- strings.Join(v, " ") -/
theorem joinSp_any (w : World) (v : Value) (ls : List (List UInt8)) (hv : StrsAt w v ls) (hn : ls.length ≤ 140737488355328) (hl : (joinB ls).length ≤ 140737488355328) :
    Calls Tryd.prog 73 #[v, .string (bs [32])] w fun e w' => e = .returned (.string (bs (joinB ls))) ∧ Below w.heap.size w w' := by
  rcases hv with ⟨rfl, rfl⟩ | ⟨b, o, c, rfl, h1, h2, h3⟩
  · exact (Tryd.strings_Join_none none 0 (bs [32]) w).mono fun _ _ ⟨he, hw⟩ => ⟨he, hw ▸ Below.refl _ _⟩
  · have e : (ls.map bs).map (·.data.toList) = ls := by rw [List.map_map]; exact List.map_id ls
    have hj := Tryd.strings_Join b o c (ls.map bs) (bs [32]) w (fun j x hx => by
      rw [List.getElem?_map] at hx
      cases hq : ls[j]? with
      | none => rw [hq] at hx; cases hx
      | some y =>
        rw [hq] at hx
        obtain rfl := Option.some.inj hx
        have hlt := (List.getElem?_eq_some_iff.1 hq).1
        rw [h3 j hlt]
        simp [List.getD, hq]) h2 (by simpa using hn) (by simpa using h1) (by rw [e, joinB_lib]; exact hl)
    rw [e, joinB_lib, List.length_map] at hj
    exact hj

theorem parseMail_any (l : List UInt8) (w : World) (a a0 : Addr) (hc : w.cell? ⟨1, 0, none⟩ = some (errV a)) (hc0 : w.cell? ⟨0, 0, none⟩ = some (errV a0)) (hl : l.length ≤ 4294967296) :
    Calls Tryd.prog 36 #[.string (bs l)] w fun e w' => e = .returned (outV a a0 (readV (ruleMail (joinB (wordsGo [] l))))) ∧ Below w.heap.size w w' := by
  have hwl := words_len l []
  have hwc := words_count l []
  have hf := fieldsFunc_any l w hl
  have hr := fun w0 (h : Below w.heap.size w w0) (hjl : (joinB (wordsGo [] l)).length ≤ 140737488355328) => readMail_any (joinB (wordsGo [] l)) w0 a a0 ((h.cell (cell_lt hc)).trans hc) ((h.cell (cell_lt hc0)).trans hc0) hjl
  obtain ⟨ws, hws⟩ : ∃ ws, wordsGo [] l = ws := ⟨_, rfl⟩
  rw [hws] at hwl hwc hf hr ⊢
  simp only [List.length_nil, Nat.zero_add] at hwl
  have hj := fun w0 v (hv : StrsAt w0 v ws) => joinSp_any w0 v ws hv (by omega) (by omega)
  obtain ⟨J, hJ⟩ : ∃ J, joinB ws = J := ⟨_, rfl⟩
  rw [hJ] at hwl hr hj ⊢
  obtain ⟨O, hO⟩ : ∃ O, readV (ruleMail J) = O := ⟨_, rfl⟩
  rw [hO] at hr ⊢
  have hjl : J.length ≤ 140737488355328 := by omega
  have HR := Lib.hid (fun w0 h => hr w0 h hjl)
  have HF := Lib.hid hf
  have HJ := Lib.hid hj
  clear hr hO hJ hf hj hws hc hc0 hwc
  go_enter Tryd.func36, Tryd.ntmps36
  go_wp2_with fail
  refine HF.out.mono ?_
  rintro e w1 ⟨v, rfl, ho, hb1⟩
  go_wp2_with fail
  refine (HJ.out _ _ ho.strs).mono ?_
  rintro e w2 ⟨rfl, hb2⟩
  have hz2 := hb1.trans (hb2.mono hb1.size)
  go_wp2_with fail
  refine (HR.out _ hz2).mono ?_
  rintro e w3 ⟨rfl, hb3⟩
  have hz3 := hz2.trans (hb3.mono hz2.size)
  rcases O with t | _ | k
  all_goals
    unfold outV
    try unfold errV
    go_wp2
    go_ret2
    exact ⟨rfl, hz3⟩

end Go.Proofs.YthkkdbpblajahaaDoor
