/- section: a Spec that came in; a number's digits by strconv.Itoa; strings.Join by a separator; a right section's text as section.Text joins it. -/
import Derived.Test.YtgkbigbekmkobaaDoorKJ
import Derived.Test.YtgkbigbekmkobaaDoorOs
import Derived.Test.YtgkbigbekmkobaaDoorOa
import Derived.Lib.SmallJoins
import Derived.Lib.LaidTab
import Derived.Lib.AppendIntMem
import Derived.WalkSmall
import Derived.SizedLaws
set_option linter.unusedVariables false
set_option linter.unusedSimpArgs false
namespace Go.Proofs.YtgkbigbekmkobaaDoor
open Go.RowKit

/-! ### The argument -/
/-- a Spec that came in -/
def ArgP (w : World) (v : Value) (ps : List Int) (wh : List UInt8) (ns : List (List UInt8)) : Prop :=
  ∃ va nv, v = .agg #[va, .string (bs wh), nv] ∧ IntsAt w va ps ∧ StrsF w nv ns ∧ (∀ a n c, nv = .slice a n c → n ≤ c)

section
variable {H : Type} {enc : TypeId × Value → H}
open Go.Joins Go.ChangeShapes Go.WideShapes Go.Deep

theorem slice_of_trod {W : World} {t e : TypeId} (ht : Tryd.prog.underlying t = some (.slice e)) {fuel : Nat} {v : Value} {x : DataW H × List MemPlace} (h : DataW.trod enc Tryd.prog W 0 (fun _ => true) true fuel t [v] = some x) : ∃ a n c, v = .slice a n c ∧ n ≤ c := by
  rcases open_slice ht h with ⟨h0, _⟩ | ⟨a, len, cap, m, n, D, Pl, hcs, hb, hl, hm, hmm, hx, hi⟩
  · simp at h0; exact ⟨_, _, _, h0, Nat.le_refl _⟩
  · simp at hcs; exact ⟨_, _, _, hcs, hl⟩

theorem strs_weights (ss : List ByteArray) : ∀ s ∈ ss, s.data.toList.length ∈ DataW.weightsAll (H := H) Tryd.prog 9 (strs ss) := by
  induction ss with
  | nil => intro s h; cases h
  | cons x r ih =>
    intro s h
    rcases List.mem_cons.1 h with rfl | h
    · exact List.mem_append_left _ (List.mem_singleton.2 rfl)
    · exact List.mem_append_right _ (ih s h)
theorem arg_strsW {W : World} {t : TypeId} (ht : Tryd.prog.underlying t = some (.slice 9)) {a0 : Option Addr} {len cap : Nat} {d : DataW H} {p : List MemPlace}
    (h0 : DataW.Trod enc Tryd.prog W 0 (fun _ => true) true t (.slice a0 len cap) d p) : ∃ ls, ArgS W (.slice a0 len cap) ls ∧ ls.length ≤ maxLen ∧ ∀ l ∈ ls, l.length ∈ d.weights Tryd.prog t := by
  obtain ⟨fuel, hf⟩ := h0
  have hlt := DataW.trod_lt _ _ _ _ hf
  rcases Go.ChangeShapes.open_strings ht Tryd.underlying9 cellsOf_str hf with ⟨hcs, hx⟩ | ⟨a, len', cap', ss, hcs, _, hl, hm, hz, hx, hcell, hws⟩
  · simp [Value.cells] at hcs
    obtain ⟨rfl, rfl, rfl⟩ := hcs
    exact ⟨[], .inl ⟨_, _, rfl, rfl⟩, by simp, by simp⟩
  · simp [Value.cells] at hcs
    obtain ⟨rfl, rfl, rfl⟩ := hcs
    simp only [Prod.mk.injEq] at hx
    obtain ⟨rfl, rfl⟩ := hx
    simp only [if_true] at hz
    by_cases h1 : len = 0
    · subst h1
      exact ⟨[], .inl ⟨_, _, rfl, rfl⟩, by simp, by simp⟩
    · obtain ⟨b, off, spot⟩ := a
      have hspot : spot = none := by simpa [Addr.add] using World.cell?_spot (hcell 0 (by omega))
      subst hspot
      have hlen : ((ss.take len).map (fun s => s.data.toList)).length = len := by simp; omega
      refine ⟨(ss.take len).map (fun s => s.data.toList), .inr ⟨b, off, cap, by rw [hlen], by omega, ?_, fun j hj => ?_⟩, by rw [hlen]; omega, ?_⟩
      · exact hlt (.cell b off) (MemPlace.mem_row.2 ⟨0, by omega, by simp⟩)
      · rw [hlen] at hj
        have := hcell j (by omega)
        have e0 : (⟨b, off, none⟩ : Addr).add j = ⟨b, off + j, none⟩ := by unfold Addr.add; split <;> simp_all
        rw [e0] at this
        rw [this]
        have e : ((ss.take len).map (fun s => s.data.toList)).getD j [] = (ss.getD j ByteArray.empty).data.toList := by
          simp [List.getD, hj, show j < ss.length by omega]
        rw [e, bs_data]
      · intro l hl9
        obtain ⟨s, hs, rfl⟩ := List.mem_map.1 hl9
        have := strs_weights (H := H) (ss.take len) s hs
        unfold DataW.weights
        rw [ht]
        exact List.mem_cons_of_mem _ (List.mem_append_left _ this)

set_option maxRecDepth 100000 in
theorem arg_spec {W : World} {b0 : Nat} {r : Reach} {v : Value} {d : DataW H} {p : List MemPlace} (hv : Value.okWide Tryd.prog W r b0 29 v) (h0 : DataW.Trod enc Tryd.prog W 0 (fun _ => true) true 29 v d p) :
    ∃ ps wh ns, ArgP W v ps wh ns ∧ ∀ l ∈ ns, l.length ∈ d.weights Tryd.prog 29 := by
  obtain ⟨v0, v1, v2, y0, y1, y2, n, rfl, rfl, rfl, h1, h2, h3⟩ := open_agg3 Tryd.underlying29 (by kernel_rfl) (by kernel_rfl) hv h0
  obtain ⟨a0, n0, c0, rfl, k0⟩ := slice_of_trod Tryd.underlying26 h1
  obtain ⟨a2, n2, c2, rfl, k2⟩ := slice_of_trod Tryd.underlying27 h3
  obtain ⟨ps, hps, hpl, _⟩ := arg_ints (enc := enc) (d := y0.1) (p := y0.2) Tryd.underlying26 ⟨n, h1⟩
  obtain ⟨ns, hns, hnl, hnn⟩ := arg_strsW (enc := enc) (d := y2.1) (p := y2.2) Tryd.underlying27 ⟨n, h3⟩
  obtain ⟨wh, rfl⟩ : ∃ wh, v1 = .string (bs wh) := by
    obtain ⟨s, hs, _⟩ := DataW.trod_string Tryd.underlying9 h2
    simp at hs
    exact ⟨s.data.toList, by rw [bs_data]; exact hs⟩
  refine ⟨ps, wh, ns, ⟨_, _, rfl, ?_, ?_, fun a n c e => by cases e; exact k2⟩, fun l hl => ?_⟩
  · obtain ⟨a, c, e1, _, _, e2⟩ := hps
    exact ⟨a, c, e1, e2⟩
  · rcases hns with ⟨a, c, e1, rfl⟩ | ⟨b, o, c, e1, e2, e3, e4⟩
    · exact ⟨a, c, e1, fun h => absurd rfl h⟩
    · exact ⟨_, c, e1, fun _ => ⟨b, o, rfl, e3, e4⟩⟩
  · have := hnn l hl
    unfold DataW.weights
    rw [Tryd.underlying29]
    exact List.mem_append_right _ (List.mem_append_right _ (List.mem_append_left _ this))
theorem spec_sized {ts : List TypeId} {ds : List (DataW H)} {t : TypeId} {d : DataW H} {ns : List (List UInt8)} (h : (DataW.weightsEach Tryd.prog ts ds).all (· ≤ reachBytes) = true) (j : Nat) (ht : ts[j]? = some t) (hd : ds[j]? = some d) (g : ∀ l ∈ ns, l.length ∈ d.weights Tryd.prog t) : ∀ l ∈ ns, l.length ≤ 140737488351232 := fun l hl => by
  have := List.all_eq_true.1 h _ (DataW.weights_mem_each ht hd _ (g l hl))
  exact Nat.le_trans (of_decide_eq_true this) (by decide)
end

/-! ### Itoa -/
/-- the library's table of powers of ten stands as its text lays it -/
def Tab (w : World) : Prop := Lib.TabIs Tryd.prog w "internal/strconv.uint64pow10" .u64 Lib.pow10Tab
theorem tabNamed : Tryd.prog.globalNamed "internal/strconv.uint64pow10" = some 14 := by kernel_rfl
theorem Tab.lt {w : World} (h : Tab w) : 14 < w.heap.size := cell_lt (Lib.TabIs.cell h tabNamed 0 (by decide))
theorem Tab.below {w w' : World} (h : Tab w) (hb : Below w.heap.size w w') : Tab w' := var?_below hb tabNamed h.lt h
theorem tab_of_head {W : World} {rest : List (String × DataW Unit)} (h : laidMet Tryd.prog (("internal/strconv.uint64pow10", Lib.tabData .u64 Lib.pow10Tab) :: rest) W) : Tab W :=
  Lib.tabIs_of_head tabNamed (by kernel_rfl) Tryd.underlying109 Tryd.underlying97 (by kernel_rfl) (by kernel_rfl) h
theorem dec_digitsF : ∀ (f n : Nat), n < 10 ^ (f + 1) → digitsF (f + 1) n = Lib.decDigits n
  | 0, n, h => by
    have h1 : n < 10 := by simpa using h
    rw [Lib.decDigits_one h1, digitsF, if_pos h1]
  | f + 1, n, h => by
    rw [digitsF]
    by_cases h1 : n < 10
    · rw [if_pos h1, Lib.decDigits_one h1]
    · have h2 : n / 10 < 10 ^ (f + 1) := by
        rw [Nat.div_lt_iff_lt_mul (by decide)]
        rwa [Nat.pow_succ] at h
      rw [if_neg h1, dec_digitsF f _ h2, Lib.decDigits.eq_1 n, dif_neg h1]
theorem dec_digits {n : Nat} (h : n < 100000000000000000000) : Lib.decDigits n = digitsL n := (dec_digitsF 19 n (by simpa using h)).symm
theorem itoa_any (n : Int) (w : World) (h0 : 0 ≤ n) (h1 : n ≤ 9999) (hT : Tab w) : Calls Tryd.prog 27 #[.int .i64 n] w fun e w' => e = .returned (.string (bs (digitsL n.toNat))) ∧ Below w.heap.size w w' := by
  refine (Tryd.strconv_Itoa n (by omega) (by omega) w hT).mono ?_
  rintro e w' ⟨rfl, k, os, rfl⟩
  have e1 : Lib.itoa n = digitsL n.toNat := by
    unfold Lib.itoa
    rw [if_neg (by omega), dec_digits (by omega)]
  exact ⟨by rw [e1], Lib.below_grow _ _ (Nat.le_refl _) _ _⟩

/-! ### Join -/
theorem joinF_any (w : World) (v : Value) (ls : List (List UInt8)) (sep : List UInt8) (hv : StrsF w v ls) (hc : ∀ a n c, v = .slice a n c → n ≤ c) (hn : ls.length ≤ 140737488355328) (hl : (Lib.join ls sep).length ≤ 140737488355328) :
    Calls Tryd.prog 28 #[v, .string (bs sep)] w fun e w' => e = .returned (.string (bs (Lib.join ls sep))) ∧ Below w.heap.size w w' := by
  obtain ⟨a, c, rfl, h1⟩ := hv
  by_cases h0 : ls = []
  · subst h0
    exact (Tryd.strings_Join_none a c (bs sep) w).mono fun _ _ ⟨he, hw⟩ => ⟨he, hw ▸ Below.refl _ _⟩
  · obtain ⟨b, o, rfl, h2, h3⟩ := h1 h0
    have e : (ls.map bs).map (·.data.toList) = ls := by rw [List.map_map]; exact List.map_id ls
    have hj := Tryd.strings_Join b o c (ls.map bs) (bs sep) w (fun j x hx => by
      rw [List.getElem?_map] at hx
      cases hq : ls[j]? with
      | none => rw [hq] at hx; cases hx
      | some y =>
        rw [hq] at hx
        obtain rfl := Option.some.inj hx
        have hlt := (List.getElem?_eq_some_iff.1 hq).1
        rw [h3 j hlt]
        simp [List.getD, hq]) h2 (by simpa using hn) (by simpa using hc _ _ _ rfl) (by rw [e]; exact hl)
    rw [e, List.length_map] at hj
    exact hj

/-! ### The text -/
theorem joinS_cc (sep n m : List UInt8) (ns : List (List UInt8)) : Lib.join (n :: m :: ns) sep = n ++ (sep ++ Lib.join (m :: ns) sep) := by
  rw [Lib.join_cons, Lib.join_cons]
  simp [Lib.joinTail]
/-- the parts that section.Text joins -/
def partsL (ps : List Int) (wh : List UInt8) : List (List UInt8) := ps.map (fun n => digitsL n.toNat) ++ (if wh = [] then [] else [wh])
theorem join_path : ∀ (ps : List Int) (n : Int), Lib.join ((n :: ps).map fun n => digitsL n.toNat) [46] = pathT 0 (n :: ps)
  | [], n => by rw [path_one]; exact Lib.join_one _ _
  | m :: ps, n => by
    have ih := join_path ps m
    rw [List.map_cons] at ih
    rw [path_cc, List.map_cons, List.map_cons, joinS_cc, ih]
    rfl
theorem join_dots (wh : List UInt8) : ∀ (ps : List Int), Lib.join (ps.map (fun n => digitsL n.toNat) ++ [wh]) [46] = dots ps ++ wh
  | [] => Lib.join_one _ _
  | n :: ps => by
    have ih := join_dots wh ps
    have e : ∃ x xs, ps.map (fun n => digitsL n.toNat) ++ [wh] = x :: xs := List.exists_cons_of_ne_nil (by simp)
    obtain ⟨x, xs, hx⟩ := e
    rw [List.map_cons, List.cons_append, hx, joinS_cc, ← hx, ih]
    simp [dots]
theorem text_join {ps : List Int} {wh : List UInt8} {ns : List (List UInt8)} (h : rightL ps wh ns = true) : textL ps wh ns = Lib.join (partsL ps wh) [46] ++ (if ns = [] then [] else 32 :: 40 :: (Lib.join ns [32] ++ [41])) := by
  obtain ⟨_, _, hp, hw, hn, hnw⟩ := right_parts h
  rcases hw with rfl | hw
  · have e : ns = [] := by
      by_cases e : ns = []
      · exact e
      · obtain ⟨_, _, h, _⟩ := (wh_facts (hnw e)).2.2
        exact absurd h (by simp)
    subst e
    rw [text_none, if_pos rfl, List.append_nil, partsL, if_pos rfl, List.append_nil]
    cases ps with
    | nil => rfl
    | cons n ps => exact (join_path ps n).symm
  · obtain ⟨_, _, c, t, hc, _, _⟩ := wh_facts hw
    have hw0 : wh ≠ [] := by rw [hc]; simp
    rw [text_some ps wh ns hp hw0, endL, partsL, if_neg hw0, join_dots, List.append_assoc]
theorem joinS_len (sep : List UInt8) (M : Nat) : ∀ (ls : List (List UInt8)), (∀ l ∈ ls, l.length ≤ M) → (Lib.join ls sep).length ≤ ls.length * (M + sep.length)
  | [], _ => by simp [Lib.join_nil]
  | [x], h => by
    have := h x (by simp)
    rw [Lib.join_one]
    simp
    omega
  | x :: y :: r, h => by
    have h1 := h x (by simp)
    have ih := joinS_len sep M (y :: r) (fun l hl => h l (List.mem_cons_of_mem _ hl))
    rw [joinS_cc, List.length_append, List.length_append, List.length_cons (a := x), Nat.add_mul]
    omega

end Go.Proofs.YtgkbigbekmkobaaDoor
