/- section: Parse of any text. -/
import Derived.Test.YtgkbigbekmkobaaDoorK8
import Derived.Deep.DeepFit
set_option linter.unusedVariables false
set_option linter.unusedSimpArgs false
namespace Go.Proofs.YtgkbigbekmkobaaDoor
open Go.RowKit

/-- a Spec in its cells -/
def SpecN (w : World) (g : Nat) (v : Value) (s : List UInt8) (nv : Value) : Prop := w.heap[g]? = some (.cells #[v, .string (bs s), nv] 29 (0, 0))
theorem SpecN.later {w w' : World} {g : Nat} {v nv : Value} {s : List UInt8} (h : SpecN w g v s nv) (hb : Below w.heap.size w w') : SpecN w' g v s nv :=
  (hb.block g (Array.getElem?_eq_some_iff.1 h).1).trans h
theorem SpecN.cells {w : World} {g : Nat} {v nv : Value} {s : List UInt8} (h : SpecN w g v s nv) : w.cell? ⟨g, 0, none⟩ = some v ∧ w.cell? ⟨g, 1, none⟩ = some (.string (bs s)) ∧ w.cell? ⟨g, 2, none⟩ = some nv ∧ w.frozen? ⟨g, 0, none⟩ = false ∧ w.frozen? ⟨g, 1, none⟩ = false ∧ w.frozen? ⟨g, 2, none⟩ = false := by
  unfold SpecN at h
  refine ⟨?_, ?_, ?_, ?_, ?_, ?_⟩ <;> simp [World.cell?, World.frozen?, h]
theorem SpecN.set0 {w : World} {g : Nat} {v nv : Value} {s : List UInt8} (h : SpecN w g v s nv) (v' : Value) : SpecN (w.setCell ⟨g, 0, none⟩ v') g v' s nv := by
  unfold SpecN at *
  simp [World.setCell, Array.getElem?_modify, h]
theorem SpecN.set1 {w : World} {g : Nat} {v nv : Value} {s : List UInt8} (h : SpecN w g v s nv) (s' : List UInt8) : SpecN (w.setCell ⟨g, 1, none⟩ (.string (bs s'))) g v s' nv := by
  unfold SpecN at *
  simp [World.setCell, Array.getElem?_modify, h]
theorem SpecN.set2 {w : World} {g : Nat} {v nv : Value} {s : List UInt8} (h : SpecN w g v s nv) (nv' : Value) : SpecN (w.setCell ⟨g, 2, none⟩ nv') g v s nv' := by
  unfold SpecN at *
  simp [World.setCell, Array.getElem?_modify, h]
theorem SpecN.far {w : World} {g h : Nat} {v nv : Value} {s : List UInt8} (k : SpecN w g v s nv) (hg : g ≠ h) (i : Nat) (x : Value) : SpecN (w.setCell ⟨h, i, none⟩ x) g v s nv :=
  (Below.heap_setCell _ _ _ _ (by simpa using hg)).trans k
theorem SpecN.lt {w : World} {g : Nat} {v nv : Value} {s : List UInt8} (h : SpecN w g v s nv) : g < w.heap.size := (Array.getElem?_eq_some_iff.1 h).1

theorem OwnI.form {w : World} {B : Nat} {v : Value} {l : List Int} (h : OwnI w B v l) : ∃ a n c, v = .slice a n c := by
  rcases h.2 with ⟨rfl, h0⟩ | ⟨g, cap, cur, rfl, _⟩
  · exact ⟨_, _, _, rfl⟩
  · exact ⟨_, _, _, rfl⟩
theorem StrsAt.far {w : World} {v : Value} {ls : List (List UInt8)} {g : Nat} (h : StrsAt w v ls) (hg : v.ownBlock ≠ some g) (i : Nat) (x : Value) : StrsAt (w.setCell ⟨g, i, none⟩ x) v ls := by
  rcases h with h | ⟨b, o, c, rfl, h2, h3, h4⟩
  · exact .inl h
  · have hb : b ≠ g := fun e => hg (by rw [e]; rfl)
    refine .inr ⟨b, o, c, rfl, h2, by simpa [World.setCell] using h3, fun j hj => ?_⟩
    rw [← h4 j hj]
    exact World.cell?_of_block (w := w) (Below.heap_setCell _ _ _ _ (by simpa using hb))
theorem OwnI.far {w : World} {B g : Nat} {v : Value} {l : List Int} (h : OwnI w B v l) (hg : g < B) (i : Nat) (x : Value) : OwnI (w.setCell ⟨g, i, none⟩ x) B v l :=
  h.later fun k hk => Below.heap_setCell _ _ _ _ (by have := (World.ownsRow.lt h k hk).1; simp; omega)
theorem OwnS.later {w w' : World} {B : Nat} {v : Value} {l : List (List UInt8)} (h : OwnS w B v l) (hb : ∀ k, v.ownBlock = some k → w'.heap[k]? = w.heap[k]?) : OwnS w' B v l := by
  refine ⟨h.1, ?_⟩
  rcases h.2 with h0 | ⟨g, cap, cur, rfl, h1, h2, r⟩
  · exact .inl h0
  · exact .inr ⟨g, cap, cur, rfl, h1, (hb g rfl).trans h2, r⟩
theorem OwnS.far {w : World} {B g : Nat} {v : Value} {l : List (List UInt8)} (h : OwnS w B v l) (hg : g < B) (i : Nat) (x : Value) : OwnS (w.setCell ⟨g, i, none⟩ x) B v l :=
  h.later fun k hk => Below.heap_setCell _ _ _ _ (by have := (World.ownsRow.lt h k hk).1; simp; omega)
theorem err_world {w w1 : World} {g2 : Nat} (s2 : SpecN w1 g2 (.slice none 0 0) [] (.slice none 0 0)) (hB : Below g2 w w1) :
    SpecN (((w1.setCell ⟨g2, 0, none⟩ (.slice none 0 0)).setCell ⟨g2, 1, none⟩ (.string ⟨#[]⟩)).setCell ⟨g2, 2, none⟩ (.slice none 0 0)).drew g2 (.slice none 0 0) [] (.slice none 0 0) ∧ Below g2 w (((w1.setCell ⟨g2, 0, none⟩ (.slice none 0 0)).setCell ⟨g2, 1, none⟩ (.string ⟨#[]⟩)).setCell ⟨g2, 2, none⟩ (.slice none 0 0)).drew :=
  ⟨((s2.set0 _).set1 []).set2 _, (below_set (below_set (below_set hB (Nat.le_refl _) _ _) (Nat.le_refl _) _ _) (Nat.le_refl _) _ _).drew⟩
theorem ok_world {w w1 : World} {g2 : Nat} {v nv : Value} {ps : List Int} {ns : List (List UInt8)} (wh : List UInt8) (s2 : SpecN w1 g2 (.slice none 0 0) [] (.slice none 0 0)) (hB : Below g2 w w1) (ho : OwnI w1 (g2 + 2) v ps) (hn : StrsAt w1 nv ns) (hg : nv.ownBlock ≠ some g2) :
    SpecN (((w1.setCell ⟨g2, 0, none⟩ v).setCell ⟨g2, 1, none⟩ (.string (bs wh))).setCell ⟨g2, 2, none⟩ nv) g2 v wh nv ∧ Below g2 w (((w1.setCell ⟨g2, 0, none⟩ v).setCell ⟨g2, 1, none⟩ (.string (bs wh))).setCell ⟨g2, 2, none⟩ nv) ∧
      IntsAt (((w1.setCell ⟨g2, 0, none⟩ v).setCell ⟨g2, 1, none⟩ (.string (bs wh))).setCell ⟨g2, 2, none⟩ nv) v ps ∧ StrsAt (((w1.setCell ⟨g2, 0, none⟩ v).setCell ⟨g2, 1, none⟩ (.string (bs wh))).setCell ⟨g2, 2, none⟩ nv) nv ns :=
  ⟨((s2.set0 _).set1 _).set2 _, below_set (below_set (below_set hB (Nat.le_refl _) _ _) (Nat.le_refl _) _ _) (Nat.le_refl _) _ _,
    (((ho.far (by omega) _ _).far (by omega) _ _).far (by omega) _ _).ints, ((hn.far hg _ _).far hg _ _).far hg _ _⟩
theorem cutSuffix_any (l p : List UInt8) (w : World) (hl : l.length ≤ 9223372036854775807) : Calls Tryd.prog 20 #[.string (bs l), .string (bs p)] w fun e w' => e = .returned (.tuple #[.string (bs (Lib.trimSuffix l p)), .bool (Lib.hasSuffix l p)]) ∧ w = w' :=
  (Tryd.strings_CutSuffix (bs l) (bs p) w (by rw [bs_size]; exact hl)).mono fun _ _ ⟨h, k⟩ => ⟨h, k.symm⟩
theorem splitK_len (sep : List UInt8) : ∀ (k : Nat) (s : List UInt8), (Lib.splitK sep 0 k s).length ≤ k + 1 ∧ ∀ n ∈ Lib.splitK sep 0 k s, n.length ≤ s.length
  | 0, s => by simp [Lib.splitK]
  | k + 1, s => by
    unfold Lib.splitK
    split
    · simp
    · have ih := splitK_len sep k (s.drop ((Lib.index s sep).toNat + sep.length))
      refine ⟨by simp only [List.length_cons]; omega, fun n hn => ?_⟩
      rcases List.mem_cons.1 hn with rfl | hn
      · simp; omega
      · have := ih.2 n hn
        rw [List.length_drop] at this
        omega
theorem countF_le (sub : List UInt8) : ∀ (f : Nat) (s : List UInt8), Lib.countFrom sub f s ≤ f
  | 0, s => by simp [Lib.countFrom]
  | f + 1, s => by
    unfold Lib.countFrom
    split
    · omega
    · have := countF_le sub f (s.drop ((Lib.index s sub).toNat + sub.length))
      omega
theorem split_len (s sep : List UInt8) : (Lib.split s sep).length ≤ s.length + 2 ∧ ∀ n ∈ Lib.split s sep, n.length ≤ s.length := by
  have h := splitK_len sep (Lib.count s sep) s
  have h2 := countF_le sep (s.length + 1) s
  unfold Lib.split
  refine ⟨?_, h.2⟩
  have h1 := h.1
  unfold Lib.count at *
  omega
theorem trim_len (l p : List UInt8) : (Lib.trimSuffix l p).length ≤ l.length := by
  unfold Lib.trimSuffix
  split
  · simp
  · exact Nat.le_refl _
/-- what Parse hands back -/
def ReadIs (R : Option (List Int × List UInt8 × List (List UInt8))) (ev : Value) (e : Ending) (w w' : World) : Prop :=
  (match R with
   | none => e = .returned (.tuple #[.agg #[.slice none 0 0, .string (bs []), .slice none 0 0], ev])
   | some x => ∃ v nv, e = .returned (.tuple #[.agg #[v, .string (bs x.2.1), nv], .nilIface]) ∧ IntsAt w' v x.1 ∧ StrsAt w' nv x.2.2) ∧ Below w.heap.size w w'

/-- behind the loop -/
def tailL (ps : List Int) (r : Option (List UInt8)) : Option (List Int × List UInt8 × List (List UInt8)) :=
  match r with
  | none => if rightL ps [] [] = true then some (ps, [], []) else none
  | some r =>
    let q := Lib.cut r [32, 40]
    if q.2.2 = true then
      if Lib.hasSuffix q.2.1 [41] = true then
        if q.1 = [] then none
        else if rightL ps (upL q.1) (Lib.split (Lib.trimSuffix q.2.1 [41]) [32]) = true then some (ps, upL q.1, Lib.split (Lib.trimSuffix q.2.1 [41]) [32]) else none
      else none
    else if q.1 = [] then none
    else if rightL ps (upL q.1) [] = true then some (ps, upL q.1, []) else none
theorem readL_eq (s : List UInt8) : readL s = tailL (if s = [] then ([], none) else loopF (s.length + 1) s).1 (if s = [] then ([], none) else loopF (s.length + 1) s).2 := rfl

set_option maxRecDepth 100000 in
set_option maxHeartbeats 4000000 in
theorem parse_any (s : List UInt8) (m : Int) (ev : Value) (w : World) (hs : s.length ≤ 100000) (hm : w.cell? ⟨13, 0, none⟩ = some (.int .i64 m)) (hE : w.cell? ⟨0, 0, none⟩ = some ev) :
    Calls Tryd.prog 8 #[.string (bs s)] w (ReadIs (readL s) ev · w ·) := by
  obtain ⟨j0, ji, jz0, jz1, jz2⟩ := info_parts info_int
  have hlt := cell_lt hm
  have hlE := cell_lt hE
  have HM := Lib.hid hm
  have HE := Lib.hid hE
  obtain ⟨R, hR⟩ : ∃ R, readL s = R := ⟨_, rfl⟩
  rw [hR]
  rw [readL_eq] at hR
  obtain ⟨P, hP⟩ : ∃ P, (if s = [] then (([], none) : List Int × Option (List UInt8)) else loopF (s.length + 1) s) = P := ⟨_, rfl⟩
  rw [hP] at hR
  have HP := Lib.hid hP
  have HR := Lib.hid hR
  clear hm hE hR hP
  go_enter Tryd.func8, Tryd.ntmps8
  go_wp2
  obtain ⟨w0, hw0⟩ : ∃ w0, (w.alloc (.cells #[.slice none 0 0, .string ⟨#[]⟩, .slice none 0 0] 29)).alloc (.cells #[.slice none 0 0, .string ⟨#[]⟩, .slice none 0 0] 29) = w0 := ⟨_, rfl⟩
  have s2 : SpecN w0 w.heap.size (.slice none 0 0) [] (.slice none 0 0) := by rw [← hw0]; exact (heap_old _ _ _ (by simp)).trans (heap_new _ _)
  have s4 : SpecN w0 (w.heap.size + 1) (.slice none 0 0) [] (.slice none 0 0) := by
    rw [← hw0, ← size_alloc w (.cells #[.slice none 0 0, .string ⟨#[]⟩, .slice none 0 0] 29)]
    exact heap_new _ _
  have b0 : Below w.heap.size w w0 := by rw [← hw0]; exact ((Below.refl _ _).alloc (Nat.le_refl _) _).alloc (by simp) _
  have z0 : w0.heap.size = w.heap.size + 2 := by rw [← hw0]; simp
  rw [hw0]
  clear hw0
  obtain ⟨g2, hg2⟩ : ∃ g, w.heap.size = g := ⟨_, rfl⟩
  rw [hg2] at s2 s4 z0 hlt b0 hlE ⊢
  obtain ⟨g4, hg4⟩ : ∃ g, g2 + 1 = g := ⟨_, rfl⟩
  rw [hg4] at s4 ⊢
  go_loopw [5, 6] (fun x5 x6 wr => ∃ (b : Bool) (f : Nat) (r : List UInt8) (l : List Int) (v : Value), x5 = .string (bs r) ∧ x6 = .bool b ∧ SpecN wr g4 v [] (.slice none 0 0) ∧ SpecN wr g2 (.slice none 0 0) [] (.slice none 0 0) ∧ OwnI wr (g2 + 2) v l ∧ Below g2 w wr ∧ r.length ≤ s.length ∧
      (b = true → r.length < f ∧ Hid (l ++ (loopF f r).1 = P.1) ∧ Hid ((loopF f r).2 = P.2) ∧ l.length + r.length ≤ s.length) ∧ (b = false → Hid (l = P.1) ∧ Hid (P.2 = none) ∧ l.length ≤ s.length + 1)) (fun x5 x6 _ => match x6 with | .bool true => (match x5 with | .string x => x.size + 1 | _ => 0) | _ => 0)
  case atStart =>
    refine ⟨!s.isEmpty, s.length + 1, s, [], _, rfl, rfl, s4, s2, World.ownsRow_nil _ _ _ _, b0, Nat.le_refl _, fun h => ?_, fun h => ?_⟩
    · have hne : s ≠ [] := by rintro rfl; cases h
      have := HP.out
      rw [if_neg hne] at this
      rw [← this]
      exact ⟨Nat.lt_succ_self _, rfl, rfl, by simp⟩
    · have hne : s = [] := by cases s with | nil => rfl | cons => cases h
      have := HP.out
      rw [if_pos hne] at this
      rw [← this]
      exact ⟨rfl, rfl, by simp⟩
  case round =>
    clear s2 s4 b0 z0
    obtain ⟨b, f, r, l, v, rfl, rfl, s4, s2, hown, hB, hrs, hT, hF⟩ := hrel
    have hzr := hB.size
    rw [hg2] at hzr
    have hz4 := s4.lt
    have hmr : wr.cell? ⟨13, 0, none⟩ = some (.int .i64 m) := (hB.cell (p := ⟨13, 0, none⟩) hlt).trans HM.out
    have hEr : wr.cell? ⟨0, 0, none⟩ = some ev := (hB.cell (p := ⟨0, 0, none⟩) hlE).trans HE.out
    cases b with
    | false =>
      obtain ⟨h1, h2, hll⟩ := hF rfl
      have HR1 := HR.out
      rw [← h1.out, h2.out] at HR1
      have HR2 := Lib.hid HR1
      clear HR1 h1 h2 hT hF HR HP
      obtain ⟨c0, c1, c2, f0, f1, f2⟩ := s4.cells
      obtain ⟨va, vn, vc, rfl⟩ := hown.form
      go_wp2_with fail
      clear c0 c1 c2 f0 f1 f2
      refine (right_any _ _ l [] [] wr hown.ints (StrsAt.form (.inl ⟨rfl, rfl⟩)) (by simp) (by omega) (by simp)).mono ?_
      rintro e w1 ⟨rfl, hb1⟩
      have s4' := s4.later hb1
      have s2' := s2.later hb1
      have hown' := hown.below hb1
      have hB' : Below g2 w w1 := hB.trans (hb1.mono hzr)
      have hE1 := (hB'.cell (p := ⟨0, 0, none⟩) hlE).trans HE.out
      obtain ⟨c0, c1, c2, f0, f1, f2⟩ := s4'.cells
      obtain ⟨k0, k1, k2, e0, e1, e2⟩ := s2'.cells
      have hne : g4 ≠ g2 := by omega
      clear hb1 s4 s2 hown hB hmr hEr hzr
      rcases hb : rightL l [] [] with _ | _
      · have hR3 : R = none := by rw [← HR2.out]; unfold tailL; simp [hb]
        subst hR3
        clear hb HR2
        go_wp2
        go_region
        all_goals
          go_wp2
          obtain ⟨r2, rB⟩ := err_world s2' hB'
          generalize (((w1.setCell ⟨g2, 0, none⟩ (.slice none 0 0)).setCell ⟨g2, 1, none⟩ (.string ⟨#[]⟩)).setCell ⟨g2, 2, none⟩ (.slice none 0 0)).drew = w7 at r2 rB ⊢
          clear k0 k1 k2 e0 e1 e2
          obtain ⟨k0, k1, k2, e0, e1, e2⟩ := r2.cells
          refine bodyPost_ret (v := .tuple #[.agg #[.slice none 0 0, .string (bs []), .slice none 0 0], ev]) (by simp [results, Tryd.results8, go_sem, k0, k1, k2, e0, e1, e2]) rfl ⟨rfl, by rw [hg2]; exact rB⟩
      · have hR3 : R = some (l, [], []) := by rw [← HR2.out]; unfold tailL; simp [hb]
        subst hR3
        clear hb HR2
        go_wp2
        obtain ⟨r2, rB, ri, rs⟩ := ok_world [] s2' hB' hown' (.inl ⟨rfl, rfl⟩ : StrsAt w1 (.slice none 0 0) []) (by simp [Value.ownBlock])
        generalize ((w1.setCell ⟨g2, 0, none⟩ (.slice va vn vc)).setCell ⟨g2, 1, none⟩ (.string (bs []))).setCell ⟨g2, 2, none⟩ (.slice none 0 0) = w7 at r2 rB ri rs ⊢
        clear k0 k1 k2 e0 e1 e2
        obtain ⟨k0, k1, k2, e0, e1, e2⟩ := r2.cells
        refine bodyPost_ret (v := .tuple #[.agg #[.slice va vn vc, .string (bs []), .slice none 0 0], .nilIface]) (by simp [results, Tryd.results8, go_sem, k0, k1, k2, e0, e1, e2]) rfl ⟨⟨_, _, rfl, ri, rs⟩, by rw [hg2]; exact rB⟩
    | true =>
      obtain ⟨hrf, h1, h2, hll⟩ := hT rfl
      obtain ⟨f, rfl⟩ : ∃ f', f = f' + 1 := ⟨f - 1, by omega⟩
      obtain ⟨q, hq⟩ : ∃ q, Lib.cut r [46] = q := ⟨_, rfl⟩
      obtain ⟨h, t, d⟩ := q
      have hcl := cut_len [46] r (by decide)
      rw [hq] at hcl
      simp only at hcl
      obtain ⟨hl1, hl2, hl3⟩ := hcl
      have k1 := h1.out
      have k2 := h2.out
      unfold loopF at k1 k2
      rw [hq] at k1 k2
      simp only at k1 k2
      obtain ⟨N, hN⟩ : ∃ N, numL h = N := ⟨_, rfl⟩
      rw [hN] at k1 k2
      have K1 := Lib.hid k1
      have K2 := Lib.hid k2
      have HQ := Lib.hid hq
      have HN := Lib.hid hN
      clear h1 h2 k1 k2 hq hN hT hF
      by_cases hn0 : N = 0
      · have k1 := K1.out
        have k2 := K2.out
        rw [if_pos hn0] at k1 k2
        simp only [List.append_nil] at k1 k2
        have HR1 := HR.out
        rw [← k1, ← k2] at HR1
        have HR2 := Lib.hid HR1
        clear HR1 k1 k2 K1 K2 HR HP
        subst hn0
        go_wp2_with fail
        refine (cut_any r [46] h t d m _ (by omega) hmr HQ.out).mono ?_
        rintro e w1 ⟨rfl, hb1⟩
        go_wp2_with fail
        refine (number_any h _ (by omega)).mono ?_
        rintro e w2 ⟨rfl, hb2⟩
        rw [HN.out]
        obtain ⟨va, vn, vc, rfl⟩ := hown.form
        have hbb : Below wr.heap.size wr w2 := hb1.trans (hb2.mono hb1.size)
        have hm2 := (hbb.cell (p := ⟨13, 0, none⟩) (cell_lt hmr)).trans hmr
        obtain ⟨q, hq⟩ : ∃ q, Lib.cut r [32, 40] = q := ⟨_, rfl⟩
        obtain ⟨a, li, two⟩ := q
        have hcl2 := cut_len [32, 40] r (by decide)
        rw [hq] at hcl2
        simp only at hcl2
        obtain ⟨hla, hlli, _⟩ := hcl2
        have hr3 := HR2.out
        unfold tailL at hr3
        simp only at hr3
        rw [hq] at hr3
        simp only at hr3
        have HR4 := Lib.hid hr3
        have HQ2 := Lib.hid hq
        clear hq hr3 HR2 hl3
        go_wp2_with fail
        refine (cut_any r [32, 40] a li two m _ (by omega) hm2 HQ2.out).mono ?_
        rintro e w3 ⟨rfl, hb3⟩
        go_wp2_with fail
        refine (large_any a _ (by omega)).mono ?_
        rintro e w4 ⟨rfl, hb4⟩
        have hb4' : Below wr.heap.size wr w4 := (hbb.trans (hb3.mono hbb.size)).trans (hb4.mono (by have := hbb.size; have := hb3.size; omega))
        have s4' := s4.later hb4'
        have s2' := s2.later hb4'
        have hown' := hown.below hb4'
        have hB' : Below g2 w w4 := hB.trans (hb4'.mono hzr)
        obtain ⟨c0, c1, c2, f0, f1, f2⟩ := s4'.cells
        have t4 := s4'.set1 (upL a)
        have t2 : SpecN (w4.setCell ⟨g4, 1, none⟩ (.string (bs (upL a)))) g2 (.slice none 0 0) [] (.slice none 0 0) := s2'.far (by omega) _ _
        have town := hown'.far (g := g4) (by omega) 1 (.string (bs (upL a)))
        have tB : Below g2 w (w4.setCell ⟨g4, 1, none⟩ (.string (bs (upL a)))) := below_set hB' (by omega) _ _
        have hz9 := s4'.lt
        obtain ⟨w5, hw5⟩ : ∃ w5, w4.setCell ⟨g4, 1, none⟩ (.string (bs (upL a))) = w5 := ⟨_, rfl⟩
        have hz5 : g4 < w5.heap.size := by rw [← hw5]; simpa [World.setCell] using hz9
        rw [hw5] at t4 t2 town tB
        have tE := (tB.cell (p := ⟨0, 0, none⟩) hlE).trans HE.out
        have tm := (tB.cell (p := ⟨13, 0, none⟩) hlt).trans HM.out
        obtain ⟨k0, k1, k2, e0, e1, e2⟩ := t2.cells
        clear hb1 hb2 hbb hb3 hb4 hb4' s4 s2 hown hB s4' s2' hown' hB' hm2 hmr hEr c0 c2 hzr hz4
        cases two with
        | false =>
          rcases a with _ | ⟨c, ta⟩
          · have hR3 : R = none := by rw [← HR4.out]; simp
            subst hR3
            clear HR4
            go_wp2
            go_region
            all_goals
              go_wp2
              obtain ⟨r2, rB⟩ := err_world t2 tB
              generalize (((w5.setCell ⟨g2, 0, none⟩ (.slice none 0 0)).setCell ⟨g2, 1, none⟩ (.string ⟨#[]⟩)).setCell ⟨g2, 2, none⟩ (.slice none 0 0)).drew = w99 at r2 rB ⊢
              clear k0 k1 k2 e0 e1 e2
              obtain ⟨k0, k1, k2, e0, e1, e2⟩ := r2.cells
              refine bodyPost_ret (v := .tuple #[.agg #[.slice none 0 0, .string (bs []), .slice none 0 0], ev]) (by simp [results, Tryd.results8, go_sem, k0, k1, k2, e0, e1, e2]) rfl ⟨rfl, by rw [hg2]; exact rB⟩
          · simp only [Bool.false_eq_true, if_false] at HR4
            obtain ⟨c0, c1, c2, f0, f1, f2⟩ := t4.cells
            go_wp2_with fail
            clear c0 c1 c2 f0 f1 f2
            refine (right_any _ _ l (upL (c :: ta)) [] w5 town.ints (StrsAt.form (.inl ⟨rfl, rfl⟩) : StrsF _ (.slice none 0 0) []) (by simp) (by omega) (by simp)).mono ?_
            rintro e w9 ⟨rfl, hb9⟩
            have y4 := t4.later hb9
            have y2 := t2.later hb9
            have yown := town.below hb9
            have yB : Below g2 w w9 := tB.trans (hb9.mono (by have := tB.size; omega))
            have YS : Hid (StrsAt w9 (.slice none 0 0) []) := .inl ⟨rfl, rfl⟩
            have yE := (yB.cell (p := ⟨0, 0, none⟩) hlE).trans HE.out
            obtain ⟨c0, c1, c2, f0, f1, f2⟩ := y4.cells
            obtain ⟨k0, k1, k2, e0, e1, e2⟩ := y2.cells
            have hne : g4 ≠ g2 := by omega
            clear hb9
            rcases hb : rightL l (upL (c :: ta)) [] with _ | _
            · have hR3 : R = none := by rw [← HR4.out]; simp [hb]
              subst hR3
              clear hb HR4
              go_wp2
              go_region
              all_goals
                go_wp2
                obtain ⟨r2, rB⟩ := err_world y2 yB
                generalize (((w9.setCell ⟨g2, 0, none⟩ (.slice none 0 0)).setCell ⟨g2, 1, none⟩ (.string ⟨#[]⟩)).setCell ⟨g2, 2, none⟩ (.slice none 0 0)).drew = w99 at r2 rB ⊢
                clear k0 k1 k2 e0 e1 e2
                obtain ⟨k0, k1, k2, e0, e1, e2⟩ := r2.cells
                refine bodyPost_ret (v := .tuple #[.agg #[.slice none 0 0, .string (bs []), .slice none 0 0], ev]) (by simp [results, Tryd.results8, go_sem, k0, k1, k2, e0, e1, e2]) rfl ⟨rfl, by rw [hg2]; exact rB⟩
            · have hR3 : R = some (l, upL (c :: ta), []) := by rw [← HR4.out]; simp [hb]
              subst hR3
              clear hb HR4
              go_wp2
              obtain ⟨r2, rB, ri, rs⟩ := ok_world (upL (c :: ta)) y2 yB yown YS.out (by simp [Value.ownBlock])
              generalize ((w9.setCell ⟨g2, 0, none⟩ (.slice va vn vc)).setCell ⟨g2, 1, none⟩ (.string (bs (upL (c :: ta))))).setCell ⟨g2, 2, none⟩ (.slice none 0 0) = w98 at r2 rB ri rs ⊢
              clear k0 k1 k2 e0 e1 e2
              obtain ⟨k0, k1, k2, e0, e1, e2⟩ := r2.cells
              refine bodyPost_ret (v := .tuple #[.agg #[.slice va vn vc, .string (bs (upL (c :: ta))), (.slice none 0 0)], .nilIface]) (by simp [results, Tryd.results8, go_sem, k0, k1, k2, e0, e1, e2]) rfl ⟨⟨_, _, rfl, ri, rs⟩, by rw [hg2]; exact rB⟩
        | true =>
          have hcs := cutSuffix_any li [41] w5 (by omega)
          by_cases hsuf : Lib.hasSuffix li [41] = true
          · rw [hsuf] at hcs
            obtain ⟨ns, hns⟩ : ∃ ns, Lib.split (Lib.trimSuffix li [41]) [32] = ns := ⟨_, rfl⟩
            have hb1 := split_len (Lib.trimSuffix li [41]) [32]
            have hb2 := trim_len li [41]
            rw [hns] at hb1
            obtain ⟨hb1, hb3⟩ := hb1
            have hnl : ns.length ≤ 1099511627776 := by omega
            have hnb : ∀ n ∈ ns, n.length ≤ 1099511627776 := fun n hn => by have := hb3 n hn; omega
            have hr5 := HR4.out
            rw [if_pos rfl, if_pos hsuf, hns] at hr5
            have HNS := Lib.hid hns
            have HNB := Lib.hid hnb
            have HCS := Lib.hid hcs
            obtain ⟨tr, htr⟩ : ∃ tr, Lib.trimSuffix li [41] = tr := ⟨_, rfl⟩
            rw [htr] at HNS HCS hb2
            clear HR4 hcs hns hnb hb1 hb3 hsuf htr
            have HR4 := Lib.hid hr5
            clear hr5
            go_wp2_with (go_at_call 20; refine HCS.out.mono ?_; rintro e w' ⟨rfl, rfl⟩)
            refine (splitS_any tr [32] m _ (by omega) (by decide) tm).mono ?_
            rintro e w6 ⟨⟨nn, nc, rfl, hst⟩, hb6⟩
            rw [HNS.out] at hst
            have z4 := (t4.later hb6).set2 (.slice (some ⟨w5.heap.size, 0, none⟩) nn nc)
            have z2 : SpecN (w6.setCell ⟨g4, 2, none⟩ (.slice (some ⟨w5.heap.size, 0, none⟩) nn nc)) g2 (.slice none 0 0) [] (.slice none 0 0) := (t2.later hb6).far (by omega) _ _
            have zown := (town.below hb6).far (g := g4) (by omega) 2 (.slice (some ⟨w5.heap.size, 0, none⟩) nn nc)
            have zB : Below g2 w (w6.setCell ⟨g4, 2, none⟩ (.slice (some ⟨w5.heap.size, 0, none⟩) nn nc)) := below_set (tB.trans (hb6.mono (by have := tB.size; omega))) (by omega) _ _
            have zS := hst.far (g := g4) (by simp [Value.ownBlock]; omega) 2 (.slice (some ⟨w5.heap.size, 0, none⟩) nn nc)
            obtain ⟨x0, x1, x2, x3, x4, x5⟩ := (t4.later hb6).cells
            obtain ⟨wS, hwS⟩ : ∃ x, w5.heap.size = x := ⟨_, rfl⟩
            have hg2S : wS ≠ g2 := by omega
            rw [hwS] at z4 z2 zown zB zS ⊢
            obtain ⟨w8, hw8⟩ : ∃ w8, w6.setCell ⟨g4, 2, none⟩ (.slice (some ⟨wS, 0, none⟩) nn nc) = w8 := ⟨_, rfl⟩
            rw [hw8] at z4 z2 zown zB zS
            have ZS := Lib.hid zS
            have zE := (zB.cell (p := ⟨0, 0, none⟩) hlE).trans HE.out
            clear k0 k1 k2 e0 e1 e2
            obtain ⟨k0, k1, k2, e0, e1, e2⟩ := z2.cells
            clear hst zS hb6 t4 t2 town tB tE tm
            rcases a with _ | ⟨c, ta⟩
            · have hR3 : R = none := by rw [← HR4.out]; simp
              subst hR3
              clear HR4
              go_wp2
              go_region
              all_goals
                go_wp2
                obtain ⟨r2, rB⟩ := err_world z2 zB
                generalize (((w8.setCell ⟨g2, 0, none⟩ (.slice none 0 0)).setCell ⟨g2, 1, none⟩ (.string ⟨#[]⟩)).setCell ⟨g2, 2, none⟩ (.slice none 0 0)).drew = w99 at r2 rB ⊢
                clear k0 k1 k2 e0 e1 e2
                obtain ⟨k0, k1, k2, e0, e1, e2⟩ := r2.cells
                refine bodyPost_ret (v := .tuple #[.agg #[.slice none 0 0, .string (bs []), .slice none 0 0], ev]) (by simp [results, Tryd.results8, go_sem, k0, k1, k2, e0, e1, e2]) rfl ⟨rfl, by rw [hg2]; exact rB⟩
            · simp only [reduceCtorEq, if_false] at HR4
              obtain ⟨c0, c1, c2, f0, f1, f2⟩ := z4.cells
              go_wp2_with fail
              clear c0 c1 c2 f0 f1 f2
              refine (right_any _ _ l (upL (c :: ta)) ns w8 zown.ints ZS.out.form HNB.out (by omega) hnl).mono ?_
              rintro e w9 ⟨rfl, hb9⟩
              have y4 := z4.later hb9
              have y2 := z2.later hb9
              have yown := zown.below hb9
              have yB : Below g2 w w9 := zB.trans (hb9.mono (by have := zB.size; omega))
              have yS := StrsAt.below ZS.out hb9
              have YS := Lib.hid yS
              have yE := (yB.cell (p := ⟨0, 0, none⟩) hlE).trans HE.out
              obtain ⟨c0, c1, c2, f0, f1, f2⟩ := y4.cells
              obtain ⟨k0, k1, k2, e0, e1, e2⟩ := y2.cells
              have hne : g4 ≠ g2 := by omega
              clear hb9 yS
              rcases hb : rightL l (upL (c :: ta)) ns with _ | _
              · have hR3 : R = none := by rw [← HR4.out]; simp [hb]
                subst hR3
                clear hb HR4
                go_wp2
                go_region
                all_goals
                  go_wp2
                  obtain ⟨r2, rB⟩ := err_world y2 yB
                  generalize (((w9.setCell ⟨g2, 0, none⟩ (.slice none 0 0)).setCell ⟨g2, 1, none⟩ (.string ⟨#[]⟩)).setCell ⟨g2, 2, none⟩ (.slice none 0 0)).drew = w99 at r2 rB ⊢
                  clear k0 k1 k2 e0 e1 e2
                  obtain ⟨k0, k1, k2, e0, e1, e2⟩ := r2.cells
                  refine bodyPost_ret (v := .tuple #[.agg #[.slice none 0 0, .string (bs []), .slice none 0 0], ev]) (by simp [results, Tryd.results8, go_sem, k0, k1, k2, e0, e1, e2]) rfl ⟨rfl, by rw [hg2]; exact rB⟩
              · have hR3 : R = some (l, upL (c :: ta), ns) := by rw [← HR4.out]; simp [hb]
                subst hR3
                clear hb HR4
                go_wp2
                obtain ⟨r2, rB, ri, rs⟩ := ok_world (upL (c :: ta)) y2 yB yown YS.out (by simp [Value.ownBlock]; omega)
                generalize ((w9.setCell ⟨g2, 0, none⟩ (.slice va vn vc)).setCell ⟨g2, 1, none⟩ (.string (bs (upL (c :: ta))))).setCell ⟨g2, 2, none⟩ (.slice (some ⟨wS, 0, none⟩) nn nc) = w98 at r2 rB ri rs ⊢
                clear k0 k1 k2 e0 e1 e2
                obtain ⟨k0, k1, k2, e0, e1, e2⟩ := r2.cells
                refine bodyPost_ret (v := .tuple #[.agg #[.slice va vn vc, .string (bs (upL (c :: ta))), (.slice (some ⟨wS, 0, none⟩) nn nc)], .nilIface]) (by simp [results, Tryd.results8, go_sem, k0, k1, k2, e0, e1, e2]) rfl ⟨⟨_, _, rfl, ri, rs⟩, by rw [hg2]; exact rB⟩
          · have hR3 : R = none := by rw [← HR4.out]; simp [hsuf]
            have hsuf' : Lib.hasSuffix li [41] = false := by simpa using hsuf
            rw [hsuf'] at hcs
            have HCS := Lib.hid hcs
            subst hR3
            clear HR4 hcs hsuf hsuf'
            go_wp2_with (go_at_call 20; refine HCS.out.mono ?_; rintro e w' ⟨rfl, rfl⟩)
            go_region
            all_goals
              go_wp2
              obtain ⟨r2, rB⟩ := err_world t2 tB
              generalize (((w5.setCell ⟨g2, 0, none⟩ (.slice none 0 0)).setCell ⟨g2, 1, none⟩ (.string ⟨#[]⟩)).setCell ⟨g2, 2, none⟩ (.slice none 0 0)).drew = w99 at r2 rB ⊢
              clear k0 k1 k2 e0 e1 e2
              obtain ⟨k0, k1, k2, e0, e1, e2⟩ := r2.cells
              refine bodyPost_ret (v := .tuple #[.agg #[.slice none 0 0, .string (bs []), .slice none 0 0], ev]) (by simp [results, Tryd.results8, go_sem, k0, k1, k2, e0, e1, e2]) rfl ⟨rfl, by rw [hg2]; exact rB⟩
      · have hn0' : (N == 0) = false := beq_eq_false_iff_ne.2 hn0
        have k1 := K1.out
        have k2 := K2.out
        rw [if_neg hn0] at k1 k2
        have K3 := Lib.hid k1
        have K4 := Lib.hid k2
        clear k1 k2 K1 K2 hn0
        go_wp2_with fail
        refine (cut_any r [46] h t d m _ (by omega) hmr HQ.out).mono ?_
        rintro e w1 ⟨rfl, hb1⟩
        go_wp2_with fail
        refine (number_any h _ (by omega)).mono ?_
        rintro e w2 ⟨rfl, hb2⟩
        rw [HN.out]
        have hbb : Below wr.heap.size wr w2 := hb1.trans (hb2.mono hb1.size)
        have s4' := s4.later hbb
        have s2' := s2.later hbb
        have hown' := hown.below hbb
        have hB' : Below g2 w w2 := hB.trans (hbb.mono hzr)
        obtain ⟨c0, c1, c2, f0, f1, f2⟩ := s4'.cells
        have hz2 := s4'.lt
        clear hb1 hb2 hbb s4 s2 hown hB hmr hEr hzr hz4
        go_wp2_with (at_builtin; refine wpList_append_own _ rfl _ _ 26 rfl (g2 + 2) 3 j0 (.int .i64 0) 1 8 Tryd.underlying26 ji jz0 jz1 jz2 rfl (by decide) _ _ _ rfl (World.ownsRow.alloc hown' _) ⟨w2.heap.size, 0, none⟩ 1 1 [.int .i64 N] rfl rfl ?e1 ?e2 ?e3 ?e4 ?e5 ?_)
        case e1 =>
          intro j u hj
          match j, hj with
          | 0, hj => simp at hj; subst hj; simp [Addr.add]
        case e2 => intro u hu; simp at hu; subst hu; rfl
        case e3 => unfold maxLen; omega
        case e4 => omega
        case e5 => simp; omega
        intro v' w3 hown3 hgrow _
        have o3 : OwnI w3 (g2 + 2) v' (l ++ [N]) := OwnI.step hown3
        have hlow := fun i e => (World.ownsRow.lt hown' i e).1
        have B3 : Below g2 w w3 := (hB'.alloc (by omega) _).grown hgrow (by simp; omega) (fun i e => by have := hlow i e; omega)
        have S4 : SpecN w3 g4 v [] (.slice none 0 0) := (hgrow.block g4 (by simp; omega) (fun e => by have := hlow _ e.symm; omega)).trans ((heap_old _ _ _ hz2).trans s4')
        have S2 : SpecN w3 g2 (.slice none 0 0) [] (.slice none 0 0) := (hgrow.block g2 (by simp; omega) (fun e => by have := hlow _ e.symm; omega)).trans ((heap_old _ _ _ (by omega)).trans s2')
        obtain ⟨g5, cap5, rfl, hl5, hg5⟩ := o3.parts (by simp)
        have o3' : ∀ x, OwnI (w3.setCell ⟨g4, 0, none⟩ x) (g2 + 2) (.slice (some ⟨g5, 0, none⟩) (l.length + 1) cap5) (l ++ [N]) := fun x => by
          rw [show l.length + 1 = (l ++ [N]).length by simp]
          exact o3.later fun i e => Below.heap_setCell _ _ _ _ (by
            have : g5 = i := by simpa [Value.ownBlock] using e
            simp; omega)
        obtain ⟨c0, c1, c2, f0, f1, f2⟩ := S4.cells
        clear hown3 hgrow hown' hlow s4' s2' hB' o3
        go_wp2
        go_roundw
        case rel =>
          refine ⟨d, f, t, l ++ [N], _, rfl, rfl, S4.set0 _, S2.far (by omega) _ _, o3' _, below_set B3 (by omega) _ _, by omega, fun hd => ?_, fun hd => ?_⟩
          · have e1 := K3.out
            have e2 := K4.out
            rw [if_pos hd] at e1 e2
            have := hl3 hd
            exact ⟨by omega, by show _ = _; rw [← e1]; simp, e2, by simp; omega⟩
          · have e1 := K3.out
            have e2 := K4.out
            rw [if_neg (by rw [hd]; simp)] at e1 e2
            exact ⟨e1, e2.symm, by simp; omega⟩
        case measure =>
          have hl3' := hl3
          cases d with
          | false => simp
          | true => have := hl3' rfl; simp [bs_size]; omega

end Go.Proofs.YtgkbigbekmkobaaDoor
