/- section's reference: Parse. -/
import Derived.Test.YtgkbigbekmkobaaDoorKJ
import Derived.Deep.DeepCutAuto
import Derived.Deep.CutBlock
import Derived.Deep.AppendLies
import Derived.Deep.RegionLaw
set_option linter.unusedVariables false
set_option linter.unusedSimpArgs false
namespace Go.Proofs.YtgkbigbekmkobaaDoor
open Go.RowKit

/-- the reference's Spec in its cells -/
def SpecR (w : World) (g : Nat) (v : Value) (s : List UInt8) (nv : Value) : Prop := w.heap[g]? = some (.cells #[v, .string (bs s), nv] 34 (0, 0))
theorem SpecR.later {w w' : World} {g : Nat} {v nv : Value} {s : List UInt8} (h : SpecR w g v s nv) (hb : Below w.heap.size w w') : SpecR w' g v s nv :=
  (hb.block g (Array.getElem?_eq_some_iff.1 h).1).trans h
theorem SpecR.cells {w : World} {g : Nat} {v nv : Value} {s : List UInt8} (h : SpecR w g v s nv) : w.cell? ⟨g, 0, none⟩ = some v ∧ w.cell? ⟨g, 1, none⟩ = some (.string (bs s)) ∧ w.cell? ⟨g, 2, none⟩ = some nv ∧ w.frozen? ⟨g, 0, none⟩ = false ∧ w.frozen? ⟨g, 1, none⟩ = false ∧ w.frozen? ⟨g, 2, none⟩ = false := by
  unfold SpecR at h
  refine ⟨?_, ?_, ?_, ?_, ?_, ?_⟩ <;> simp [World.cell?, World.frozen?, h]
theorem SpecR.set0 {w : World} {g : Nat} {v nv : Value} {s : List UInt8} (h : SpecR w g v s nv) (v' : Value) : SpecR (w.setCell ⟨g, 0, none⟩ v') g v' s nv := by
  unfold SpecR at *
  simp [World.setCell, Array.getElem?_modify, h]
theorem SpecR.set1 {w : World} {g : Nat} {v nv : Value} {s : List UInt8} (h : SpecR w g v s nv) (s' : List UInt8) : SpecR (w.setCell ⟨g, 1, none⟩ (.string (bs s'))) g v s' nv := by
  unfold SpecR at *
  simp [World.setCell, Array.getElem?_modify, h]
theorem SpecR.set2 {w : World} {g : Nat} {v nv : Value} {s : List UInt8} (h : SpecR w g v s nv) (nv' : Value) : SpecR (w.setCell ⟨g, 2, none⟩ nv') g v s nv' := by
  unfold SpecR at *
  simp [World.setCell, Array.getElem?_modify, h]
theorem SpecR.far {w : World} {g h : Nat} {v nv : Value} {s : List UInt8} (k : SpecR w g v s nv) (hg : g ≠ h) (i : Nat) (x : Value) : SpecR (w.setCell ⟨h, i, none⟩ x) g v s nv :=
  (Below.heap_setCell _ _ _ _ (by simpa using hg)).trans k
theorem SpecR.lt {w : World} {g : Nat} {v nv : Value} {s : List UInt8} (h : SpecR w g v s nv) : g < w.heap.size := (Array.getElem?_eq_some_iff.1 h).1

/-- what the reference's Parse hands back -/
def RefIs (R : Option (List Int × List UInt8 × List (List UInt8))) (e : Ending) (w w' : World) : Prop :=
  (match R with
   | none => e = .returned (.tuple #[.agg #[.slice none 0 0, .string (bs []), .slice none 0 0], .bool false])
   | some x => ∃ v nv, e = .returned (.tuple #[.agg #[v, .string (bs x.2.1), nv], .bool true]) ∧ IntsAt w' v x.1 ∧ StrsAt w' nv x.2.2) ∧ Below w.heap.size w w'

theorem OwnS.later {w w' : World} {B : Nat} {v : Value} {l : List (List UInt8)} (h : OwnS w B v l) (hb : ∀ k, v.ownBlock = some k → w'.heap[k]? = w.heap[k]?) : OwnS w' B v l := by
  refine ⟨h.1, ?_⟩
  rcases h.2 with h0 | ⟨g, cap, cur, rfl, h1, h2, r⟩
  · exact .inl h0
  · exact .inr ⟨g, cap, cur, rfl, h1, (hb g rfl).trans h2, r⟩
theorem OwnS.far {w : World} {B g : Nat} {v : Value} {l : List (List UInt8)} (h : OwnS w B v l) (hg : g < B) (i : Nat) (x : Value) : OwnS (w.setCell ⟨g, i, none⟩ x) B v l :=
  h.later fun k hk => Below.heap_setCell _ _ _ _ (by have := (World.ownsRow.lt h k hk).1; simp; omega)
theorem drop_cons {s : List UInt8} {k : Nat} {c : UInt8} (h : s[k]? = some c) : s.drop k = c :: s.drop (k + 1) := by
  obtain ⟨hlt, hc⟩ := List.getElem?_eq_some_iff.1 h
  rw [List.drop_eq_getElem_cons hlt, hc]
theorem noDig_cons {c : UInt8} {t : List UInt8} (h : digB c = false) : noDig (c :: t) := fun c' t' e => by cases e; exact h
theorem err_worldR {w w1 : World} {g2 : Nat} (s2 : SpecR w1 g2 (.slice none 0 0) [] (.slice none 0 0)) (hB : Below g2 w w1) :
    SpecR (((w1.setCell ⟨g2, 0, none⟩ (.slice none 0 0)).setCell ⟨g2, 1, none⟩ (.string ⟨#[]⟩)).setCell ⟨g2, 2, none⟩ (.slice none 0 0)) g2 (.slice none 0 0) [] (.slice none 0 0) ∧ Below g2 w (((w1.setCell ⟨g2, 0, none⟩ (.slice none 0 0)).setCell ⟨g2, 1, none⟩ (.string ⟨#[]⟩)).setCell ⟨g2, 2, none⟩ (.slice none 0 0)) :=
  ⟨((s2.set0 _).set1 []).set2 _, below_set (below_set (below_set hB (Nat.le_refl _) _ _) (Nat.le_refl _) _ _) (Nat.le_refl _) _ _⟩
theorem ok_worldR {w w1 : World} {g2 : Nat} {v nv : Value} {ps : List Int} {ns : List (List UInt8)} (wh : List UInt8) (s2 : SpecR w1 g2 (.slice none 0 0) [] (.slice none 0 0)) (hB : Below g2 w w1) (ho : OwnI w1 (g2 + 2) v ps) (hn : OwnS w1 (g2 + 2) nv ns) :
    SpecR (((w1.setCell ⟨g2, 0, none⟩ v).setCell ⟨g2, 1, none⟩ (.string (bs wh))).setCell ⟨g2, 2, none⟩ nv) g2 v wh nv ∧ Below g2 w (((w1.setCell ⟨g2, 0, none⟩ v).setCell ⟨g2, 1, none⟩ (.string (bs wh))).setCell ⟨g2, 2, none⟩ nv) ∧
      IntsAt (((w1.setCell ⟨g2, 0, none⟩ v).setCell ⟨g2, 1, none⟩ (.string (bs wh))).setCell ⟨g2, 2, none⟩ nv) v ps ∧ StrsAt (((w1.setCell ⟨g2, 0, none⟩ v).setCell ⟨g2, 1, none⟩ (.string (bs wh))).setCell ⟨g2, 2, none⟩ nv) nv ns :=
  ⟨((s2.set0 _).set1 _).set2 _, below_set (below_set (below_set hB (Nat.le_refl _) _ _) (Nat.le_refl _) _ _) (Nat.le_refl _) _ _,
    (((ho.far (by omega) _ _).far (by omega) _ _).far (by omega) _ _).ints, (((hn.far (by omega) _ _).far (by omega) _ _).far (by omega) _ _).strs⟩
theorem take_noblank : ∀ r : List UInt8, (32 : UInt8) ∉ r.takeWhile notBl
  | [] => by simp
  | c :: t => by
    rw [List.takeWhile_cons]
    split
    · rename_i h
      intro m
      rcases List.mem_cons.1 m with e | m
      · rw [← e] at h; exact absurd h (by decide)
      · exact take_noblank t m
    · simp
theorem drop_upTo : ∀ r : List UInt8, upTo (r.dropWhile notBl) = r.dropWhile notBl
  | [] => rfl
  | c :: t => by
    rw [List.dropWhile_cons]
    split
    · exact drop_upTo t
    · rename_i h
      have h4 : c = 32 := by simpa [notBl] using h
      rw [upTo, if_pos h4]
theorem namesGo_len : ∀ (t cur : List UInt8), ∀ n ∈ namesGo t cur, n.length ≤ cur.length + t.length
  | [], cur, n, hn => by cases hn
  | c :: t, cur, n, hn => by
    rw [namesGo] at hn
    split at hn
    · rcases List.mem_cons.1 hn with rfl | hn
      · simp
      · have := namesGo_len t [] n hn
        simp at this ⊢
        omega
    · have := namesGo_len t (cur ++ [c]) n hn
      simp at this ⊢
      omega
theorem upTo_parts {s pre W0 DS : List UInt8} (h : s = pre ++ (W0 ++ DS)) (h1 : (32 : UInt8) ∉ pre) (h2 : upL pre = pre) (h3 : (32 : UInt8) ∉ W0) (h4 : upTo DS = DS) : upTo s = pre ++ (upL W0 ++ DS) := by
  rw [h, upTo_app _ _ h1, upTo_app _ _ h3, h2, h4]
theorem parts_iff (T pre W DS : List UInt8) (n I K : Nat) (hI : pre.length = I) (hK : I + W.length = K) (hn : K + DS.length = n) : T = pre ++ (W ++ DS) ↔ T.length = n ∧ T.take I = pre ∧ (T.drop I).take (K - I) = W ∧ T.drop K = DS := by
  constructor
  · rintro rfl
    refine ⟨by simp; omega, by rw [← hI]; simp, ?_, ?_⟩
    · rw [← hI, List.drop_left, show K - pre.length = W.length by omega]; simp
    · rw [← hK, ← hI, ← List.drop_drop]; simp
  · rintro ⟨h1, h2, h3, h4⟩
    rw [← h2, ← h3, ← h4]
    have e : T.drop K = (T.drop I).drop (K - I) := by rw [List.drop_drop]; congr 1; omega
    rw [e, List.take_append_drop, List.take_append_drop]
theorem noDig_nil : noDig [] := fun c' t' e => by cases e

set_option maxRecDepth 100000 in
set_option maxHeartbeats 4000000 in
theorem refParse_any (s : List UInt8) (w : World) (hs : s.length ≤ 100000) :
    Calls Tryd.prog 9 #[.string (bs s)] w (RefIs (refParseL s) · w ·) := by
  obtain ⟨j0, ji, jz0, jz1, jz2⟩ := info_parts info_int
  obtain ⟨i0, hi0, hz0, hz1, hz2⟩ := info_parts info_str
  obtain ⟨R, hR⟩ : ∃ R, refParseL s = R := ⟨_, rfl⟩
  rw [hR]
  unfold refParseL looseL at hR
  simp only at hR
  obtain ⟨pre, hpre1, hpre2, hpre3⟩ := path_pre (s.length + 1) s
  obtain ⟨PS, hPS⟩ : ∃ x, (pathGo (s.length + 1) s).1 = x := ⟨_, rfl⟩
  obtain ⟨RS, hRS⟩ : ∃ x, (pathGo (s.length + 1) s).2 = x := ⟨_, rfl⟩
  rw [hPS, hRS] at hR
  rw [hRS] at hpre1
  obtain ⟨I, hI⟩ : ∃ I : Nat, pre.length = I := ⟨_, rfl⟩
  have hIl : I + RS.length = s.length := by rw [hpre1, ← hI]; simp
  have hdI : s.drop I = RS := by rw [hpre1, ← hI]; simp
  have HPS := Lib.hid hPS
  have HRS := Lib.hid hRS
  have HR := Lib.hid hR
  have HPRE := Lib.hid hpre1
  have HPR2 := Lib.hid hpre2
  have HPR3 := Lib.hid hpre3
  have HI := Lib.hid hI
  have HDI := Lib.hid hdI
  clear hR hPS hRS hpre1 hpre2 hpre3 hI hdI
  go_enter Tryd.func9, Tryd.ntmps9
  go_upto_block 0 with fail
  obtain ⟨w0, hw0⟩ : ∃ w0, (w.alloc (.cells #[.slice none 0 0, .string ⟨#[]⟩, .slice none 0 0] 34)).alloc (.cells #[.slice none 0 0, .string ⟨#[]⟩, .slice none 0 0] 34) = w0 := ⟨_, rfl⟩
  have s2 : SpecR w0 w.heap.size (.slice none 0 0) [] (.slice none 0 0) := by rw [← hw0]; exact (heap_old _ _ _ (by simp)).trans (heap_new _ _)
  have s4 : SpecR w0 (w.heap.size + 1) (.slice none 0 0) [] (.slice none 0 0) := by
    rw [← hw0, ← size_alloc w (.cells #[.slice none 0 0, .string ⟨#[]⟩, .slice none 0 0] 34)]
    exact heap_new _ _
  have b0 : Below w.heap.size w w0 := by rw [← hw0]; exact ((Below.refl _ _).alloc (Nat.le_refl _) _).alloc (by simp) _
  have z0 : w0.heap.size = w.heap.size + 2 := by rw [← hw0]; simp
  rw [hw0]
  clear hw0
  obtain ⟨g2, hg2⟩ : ∃ g, w.heap.size = g := ⟨_, rfl⟩
  rw [hg2] at s2 s4 z0 b0 ⊢
  obtain ⟨g4, hg4⟩ : ∃ g, g2 + 1 = g := ⟨_, rfl⟩
  rw [hg4] at s4 ⊢
  go_cut [5, 6] (fun v5 _ wc => v5 = .int .i64 I ∧ ∃ v : Value, SpecR wc g4 v [] (.slice none 0 0) ∧ SpecR wc g2 (.slice none 0 0) [] (.slice none 0 0) ∧ OwnI wc (g2 + 2) v PS ∧ Below g2 w wc ∧ PS.length ≤ s.length)
  case first =>
    go_wp2_with fail
    go_loopw [5, 6] (fun v5 _ wr => ∃ (k f : Nat) (l : List Int) (v : Value), k ≤ s.length ∧ v5 = .int .i64 k ∧ SpecR wr g4 v [] (.slice none 0 0) ∧ SpecR wr g2 (.slice none 0 0) [] (.slice none 0 0) ∧ OwnI wr (g2 + 2) v l ∧ Below g2 w wr ∧ s.length < f + k ∧ l.length ≤ k ∧ Hid (l ++ (pathGo f (s.drop k)).1 = PS) ∧ Hid ((pathGo f (s.drop k)).2 = RS)) (fun v5 _ _ => s.length - (intOf v5).toNat)
    case atStart => exact ⟨0, s.length + 1, [], _, Nat.zero_le _, rfl, s4, s2, World.ownsRow_nil _ _ _ _, b0, by omega, Nat.le_refl _, by show _ = _; simpa using HPS.out, by show _ = _; simpa using HRS.out⟩
    case round =>
      clear s2 s4 b0 z0
      obtain ⟨k, f, l, v, hk, rfl, s4, s2, hown, hB, hf, hll, h1, h2⟩ := hrel
      have hzr := hB.size
      rw [hg2] at hzr
      have hz4 := s4.lt
      obtain ⟨wo, hwo⟩ : ∃ wo, wo = wr := ⟨_, rfl⟩
      subst hwo
      have fin : noDig (s.drop k) → l = PS ∧ k = I := by
        intro hn
        have e1 := h1.out
        have e2 := h2.out
        rw [pathGo_stop hn] at e1 e2
        simp only [List.append_nil] at e1 e2
        have := congrArg List.length e2
        rw [List.length_drop] at this
        exact ⟨e1, by omega⟩
      have FIN := Lib.hid fin
      clear fin
      by_cases hlt : k < s.length
      · have hlt' : (k : Int) < s.length := by omega
        obtain ⟨c, hc⟩ : ∃ c, s[k]? = some c := ⟨_, List.getElem?_eq_getElem hlt⟩
        have hx : (bs s)[k]'(by rw [bs_size]; exact hlt) = c := (List.getElem?_eq_some_iff.1 hc).2
        have HC := Lib.hid (drop_cons hc)
        clear hc
        by_cases a1 : (48 : Int) ≤ c.toNat
        · by_cases a2 : (c.toNat : Int) ≤ 57
          · have hdg : digB c = true := digB_iff.2 ⟨a1, a2⟩
            obtain ⟨f, rfl⟩ : ∃ f', f = f' + 1 := ⟨f - 1, by omega⟩
            obtain ⟨N, hN⟩ : ∃ x, (numGo (c :: s.drop (k + 1)) 0).1 = x := ⟨_, rfl⟩
            obtain ⟨Q, hQ⟩ : ∃ x, (numGo (c :: s.drop (k + 1)) 0).2 = x := ⟨_, rfl⟩
            have e1 := h1.out
            have e2 := h2.out
            rw [HC.out, pathGo_cons, if_pos hdg, hN, hQ] at e1 e2
            simp only at e1 e2
            have E1 := Lib.hid e1
            have E2 := Lib.hid e2
            have HN := Lib.hid hN
            have HQ := Lib.hid hQ
            have HDG := Lib.hid hdg
            clear h1 h2 e1 e2 hN hQ hdg FIN
            go_upto_block 2 with fail
            go_cut [5, 6] from 12 to 75 (fun v5 v6 wc => ∃ k2 : Nat, k < k2 ∧ k2 ≤ s.length ∧ v5 = .int .i64 k2 ∧ v6 = .int .i64 N ∧ wc = wo ∧ Hid (s.drop k2 = Q))
            case first =>
              clear hx
              go_wp2_with fail
              go_loopw [5, 6] (fun v5 v6 wq => ∃ (k1 : Nat) (n : Int), k ≤ k1 ∧ k1 ≤ s.length ∧ v5 = .int .i64 k1 ∧ v6 = .int .i64 n ∧ 0 ≤ n ∧ n < 1000000 ∧ wq = wo ∧ Hid (numGo (s.drop k1) n = (N, Q)) ∧ Hid (k1 = k → n = 0)) (fun v5 _ _ => s.length - (intOf v5).toNat)
              case atStart => exact ⟨k, 0, Nat.le_refl _, by omega, rfl, rfl, by decide, by decide, rfl, by show _ = _; rw [HC.out, ← HN.out, ← HQ.out], by first | trivial | exact fun _ => rfl⟩
              case round =>
                obtain ⟨k1, n, hk1, hk1l, rfl, rfl, hn0, hn1, rfl, hnq, hkk⟩ := hrel
                have stop : (noDig (s.drop k1) ∨ 10000 ≤ n) → n = N ∧ s.drop k1 = Q ∧ k < k1 := by
                  intro hn
                  have e : numGo (s.drop k1) n = (n, s.drop k1) := by
                    rcases hn with hn | hn
                    · exact numGo_stop hn n
                    · cases hd : s.drop k1 with
                      | nil => rfl
                      | cons c' t' => rw [numGo, if_neg (by omega)]
                  have e2 := hnq.out
                  rw [e] at e2
                  refine ⟨congrArg Prod.fst e2, congrArg Prod.snd e2, ?_⟩
                  rcases Nat.lt_or_ge k k1 with h | h
                  · exact h
                  · exfalso
                    have hkk1 : k1 = k := by omega
                    have h0 := hkk.out hkk1
                    rcases hn with hn | hn
                    · rw [hkk1] at hn
                      have := hn _ _ HC.out
                      rw [HDG.out] at this
                      exact absurd this (by decide)
                    · omega
                have STOP := Lib.hid stop
                clear stop
                by_cases hlt1 : k1 < s.length
                · have hlt1' : (k1 : Int) < s.length := by omega
                  obtain ⟨c1, hc1⟩ : ∃ c, s[k1]? = some c := ⟨_, List.getElem?_eq_getElem hlt1⟩
                  have hx1 : (bs s)[k1]'(by rw [bs_size]; exact hlt1) = c1 := (List.getElem?_eq_some_iff.1 hc1).2
                  have HC1 := Lib.hid (drop_cons hc1)
                  clear hc1
                  by_cases b1 : (48 : Int) ≤ c1.toNat
                  · by_cases b2 : (c1.toNat : Int) ≤ 57
                    · by_cases b3 : n < 10000
                      · have e3 := hnq.out
                        rw [HC1.out, numGo_one _ _ _ (digB_iff.2 ⟨b1, b2⟩) b3] at e3
                        have E3 := Lib.hid e3
                        clear hnq e3 STOP
                        go_wp2
                        go_roundw
                        case rel => exact ⟨k1 + 1, 10 * n + ((c1.toNat : Int) - 48), by omega, by omega, by go_num, by go_num, by omega, by omega, by trivial, E3.out, fun h => absurd h (by omega)⟩
                        case measure => simp [intOf]; omega
                      · obtain ⟨e1, e2, e3⟩ := STOP.out (.inr (by omega))
                        clear hnq STOP
                        go_wp2
                        go_meet
                        case rel => exact ⟨k1, e3, hk1l, rfl, by first | rfl | rw [e1], rfl, e2⟩
                    · obtain ⟨e1, e2, e3⟩ := STOP.out (.inl (by rw [HC1.out]; exact noDig_cons (by rw [Bool.eq_false_iff]; exact fun h => b2 (digB_iff.1 h).2)))
                      clear hnq STOP
                      go_wp2
                      go_meet
                      case rel => exact ⟨k1, e3, hk1l, rfl, by first | rfl | rw [e1], rfl, e2⟩
                  · obtain ⟨e1, e2, e3⟩ := STOP.out (.inl (by rw [HC1.out]; exact noDig_cons (by rw [Bool.eq_false_iff]; exact fun h => b1 (digB_iff.1 h).1)))
                    clear hnq STOP
                    go_wp2
                    go_meet
                    case rel => exact ⟨k1, e3, hk1l, rfl, by first | rfl | rw [e1], rfl, e2⟩
                · obtain ⟨e1, e2, e3⟩ := STOP.out (.inl (by rw [List.drop_eq_nil_of_le (by omega)]; exact noDig_nil))
                  clear hnq STOP
                  go_wp2
                  go_meet
                  case rel => exact ⟨k1, e3, hk1l, rfl, by first | rfl | rw [e1], rfl, e2⟩
            case rest =>
              obtain ⟨k2, hk2, hk2l, rfl, rfl, rfl, hq⟩ := hcut
              clear hx a1 a2 HC HDG HN HQ
              obtain ⟨c0, c1, c2, f0, f1, f2⟩ := s4.cells
              go_wp2_with (at_builtin; refine wpList_append_own _ rfl _ _ 26 rfl (g2 + 2) 3 j0 (.int .i64 0) 1 8 Tryd.underlying26 ji jz0 jz1 jz2 rfl (by decide) _ _ _ rfl (World.ownsRow.alloc hown _) ⟨wc.heap.size, 0, none⟩ 1 1 [.int .i64 N] rfl rfl ?e1 ?e2 ?e3 ?e4 ?e5 ?_)
              case e1 =>
                intro j u hj
                match j, hj with
                | 0, hj => simp at hj; subst hj; simp [Addr.add]
              case e2 => intro u hu; simp at hu; subst hu; rfl
              case e3 => unfold maxLen; omega
              case e4 => omega
              case e5 => simp; omega
              intro v' w3 hown3 hgrow _
              have o3 : OwnI w3 (g2 + 2) v' (l ++ [N]) := OwnI.step hown3
              have hlow := fun i e => (World.ownsRow.lt hown i e).1
              have B3 : Below g2 w w3 := (hB.alloc (by omega) _).grown hgrow (by simp; omega) (fun i e => by have := hlow i e; omega)
              have S4 : SpecR w3 g4 v [] (.slice none 0 0) := (hgrow.block g4 (by simp; omega) (fun e => by have := hlow _ e.symm; omega)).trans ((heap_old _ _ _ hz4).trans s4)
              have S2 : SpecR w3 g2 (.slice none 0 0) [] (.slice none 0 0) := (hgrow.block g2 (by simp; omega) (fun e => by have := hlow _ e.symm; omega)).trans ((heap_old _ _ _ (by omega)).trans s2)
              obtain ⟨g5, cap5, rfl, hl5, hg5⟩ := o3.parts (by simp)
              have o3' : ∀ x, OwnI (w3.setCell ⟨g4, 0, none⟩ x) (g2 + 2) (.slice (some ⟨g5, 0, none⟩) (l.length + 1) cap5) (l ++ [N]) := fun x => by
                rw [show l.length + 1 = (l ++ [N]).length by simp]
                exact o3.later fun i e => Below.heap_setCell _ _ _ _ (by
                  have : g5 = i := by simpa [Value.ownBlock] using e
                  simp; omega)
              obtain ⟨c0, c1, c2, f0, f1, f2⟩ := S4.cells
              clear hown3 hgrow hown hlow s4 s2 hB o3
              have fin : ∀ k3, skipD Q = s.drop k3 → Hid ((l ++ [N]) ++ (pathGo f (s.drop k3)).1 = PS) ∧ Hid ((pathGo f (s.drop k3)).2 = RS) := by
                intro k3 e
                have e1 := E1.out
                have e2 := E2.out
                rw [e] at e1 e2
                exact ⟨by show _ = _; rw [← e1]; simp, e2⟩
              have FIN := Lib.hid fin
              clear fin E1 E2
              by_cases hl2 : k2 < s.length
              · have hl2' : (k2 : Int) < s.length := by omega
                obtain ⟨d, hd⟩ : ∃ c, s[k2]? = some c := ⟨_, List.getElem?_eq_getElem hl2⟩
                have hx2 : (bs s)[k2]'(by rw [bs_size]; exact hl2) = d := (List.getElem?_eq_some_iff.1 hd).2
                have hQd : Q = d :: s.drop (k2 + 1) := hq.out.symm.trans (drop_cons hd)
                rcases hdd : ((d.toNat : Int) == 46) with _ | _
                · obtain ⟨F1, F2⟩ := FIN.out k2 (by
                    rw [hq.out, hQd, skip_cons, if_neg]
                    rintro rfl
                    exact absurd hdd (by decide))
                  clear FIN hd hQd
                  go_wp2
                  go_roundw
                  case rel => exact ⟨k2, f, l ++ [N], _, hk2l, rfl, S4.set0 _, S2.far (by omega) _ _, o3' _, below_set B3 (by omega) _ _, by omega, by simp; omega, F1, F2⟩
                  case measure => simp [intOf]; omega
                · obtain ⟨F1, F2⟩ := FIN.out (k2 + 1) (by
                    rw [hQd, skip_cons, if_pos]
                    apply UInt8.toNat_inj.1
                    have := eq_of_beq hdd
                    show d.toNat = 46
                    omega)
                  clear FIN hd hQd
                  go_wp2
                  go_roundw
                  case rel => exact ⟨k2 + 1, f, l ++ [N], _, by omega, by go_num, S4.set0 _, S2.far (by omega) _ _, o3' _, below_set B3 (by omega) _ _, by omega, by simp; omega, F1, F2⟩
                  case measure => simp [intOf]; omega
              · obtain ⟨F1, F2⟩ := FIN.out k2 (by rw [← hq.out, List.drop_eq_nil_of_le (by omega)]; rfl)
                clear FIN
                go_wp2
                go_roundw
                case rel => exact ⟨k2, f, l ++ [N], _, hk2l, rfl, S4.set0 _, S2.far (by omega) _ _, o3' _, below_set B3 (by omega) _ _, by omega, by simp; omega, F1, F2⟩
                case measure => simp [intOf]; omega
          · have hd : digB c = false := by
              rw [Bool.eq_false_iff]; exact fun h => a2 (digB_iff.1 h).2
            obtain ⟨e1, e2⟩ := FIN.out (by rw [HC.out]; exact noDig_cons hd)
            subst e1 e2
            clear h1 h2 hd FIN
            go_wp2
            go_meet
            case rel => exact ⟨rfl, v, s4, s2, hown, hB, by omega⟩
        · have hd : digB c = false := by
            rw [Bool.eq_false_iff]; exact fun h => a1 (digB_iff.1 h).1
          obtain ⟨e1, e2⟩ := FIN.out (by rw [HC.out]; exact noDig_cons hd)
          subst e1 e2
          clear h1 h2 hd FIN
          go_wp2
          go_meet
          case rel => exact ⟨rfl, v, s4, s2, hown, hB, by omega⟩
      · obtain ⟨e1, e2⟩ := FIN.out (by rw [List.drop_eq_nil_of_le (by omega)]; exact noDig_nil)
        subst e1 e2
        clear h1 h2 FIN
        go_wp2
        go_meet
        case rel => exact ⟨rfl, v, s4, s2, hown, hB, by omega⟩
  case rest =>
    clear s2 s4 b0 z0
    obtain ⟨rfl, v, s4, s2, hown, hB, hpl⟩ := hcut
    clear HPS HRS
    obtain ⟨W0, hW0⟩ : ∃ x, RS.takeWhile notBl = x := ⟨_, rfl⟩
    obtain ⟨DS, hDS⟩ : ∃ x, RS.dropWhile notBl = x := ⟨_, rfl⟩
    have hsplit : W0 ++ DS = RS := by rw [← hW0, ← hDS]; exact List.takeWhile_append_dropWhile
    obtain ⟨K, hK⟩ : ∃ K, I + W0.length = K := ⟨_, rfl⟩
    have hR1 := HR.out
    rw [hW0, hDS] at hR1
    have hKl : K + DS.length = s.length := by rw [← hK, ← hIl, ← hsplit]; simp; omega
    have hIK : I ≤ K := by omega
    have hdK : s.drop K = DS := by rw [← hK, ← List.drop_drop, HDI.out, ← hsplit]; simp
    have hmid : (s.drop I).take (K - I) = W0 := by rw [HDI.out, ← hsplit, ← hK]; simp
    have HR1 := Lib.hid hR1
    have HK := Lib.hid hK
    have HW0 := Lib.hid hW0
    have HDS := Lib.hid hDS
    have HDK := Lib.hid hdK
    have HMID := Lib.hid hmid
    clear hR1 HR hK hW0 hDS hsplit hdK hmid
    go_upto_block 4 with fail
    obtain ⟨wo, hwo⟩ : ∃ wo, wo = wc := ⟨_, rfl⟩
    subst hwo
    go_cut [7] (fun v7 wx => v7 = .int .i64 K ∧ wx = wo)
    case first =>
      clear s4 s2 hown
      go_wp2_with fail
      go_loopw [7] (fun v7 wq => ∃ k1 : Nat, I ≤ k1 ∧ k1 ≤ s.length ∧ v7 = .int .i64 k1 ∧ wq = wo ∧ Hid (k1 + ((s.drop k1).takeWhile notBl).length = K)) (fun v7 _ => s.length - (intOf v7).toNat)
      case atStart => exact ⟨I, Nat.le_refl _, by omega, rfl, rfl, by show _ = _; rw [HDI.out, HW0.out]; exact HK.out⟩
      case round =>
        obtain ⟨k1, hk1, hk1l, rfl, rfl, hkk⟩ := hrel
        by_cases hlt1 : k1 < s.length
        · have hlt1' : (k1 : Int) < s.length := by omega
          obtain ⟨c1, hc1⟩ : ∃ c, s[k1]? = some c := ⟨_, List.getElem?_eq_getElem hlt1⟩
          have hx1 : (bs s)[k1]'(by rw [bs_size]; exact hlt1) = c1 := (List.getElem?_eq_some_iff.1 hc1).2
          have e := hkk.out
          rw [drop_cons hc1, List.takeWhile_cons] at e
          clear hc1 hkk
          rcases hb : ((c1.toNat : Int) != 32) with _ | _
          · have hc : notBl c1 = false := by
              have h0 : c1 = 32 := by
                apply UInt8.toNat_inj.1
                have := eq_of_beq (by simpa [bne] using hb : ((c1.toNat : Int) == 32) = true)
                show c1.toNat = 32
                omega
              rw [h0]; rfl
            rw [hc, if_neg (by decide), List.length_nil, Nat.add_zero] at e
            subst e
            clear hc
            go_wp2
            go_meet
            case rel => exact ⟨rfl, rfl⟩
          · have hc : notBl c1 = true := by
              unfold notBl
              rw [Bool.not_eq_true', beq_eq_false_iff_ne]
              rintro rfl
              exact absurd hb (by decide)
            rw [hc, if_pos rfl, List.length_cons] at e
            have E := Lib.hid e
            clear hc e
            go_wp2
            go_roundw
            case rel => exact ⟨k1 + 1, by omega, by omega, by go_num, by trivial, by show _ = _; rw [← E.out]; omega⟩
            case measure => simp [intOf]; omega
        · have e := hkk.out
          rw [List.drop_eq_nil_of_le (by omega), List.takeWhile_nil, List.length_nil, Nat.add_zero] at e
          subst e
          clear hkk
          go_wp2
          go_meet
          case rel => exact ⟨rfl, rfl⟩
    case rest =>
      obtain ⟨rfl, rfl⟩ := hcut
      have rm : ∀ w, (Instr.slice 9 (.string (bs s)) (some (.int .i64 I)) (some (.int .i64 K)) none).run Tryd.prog w = .ok (.string (bs W0)) w := fun w => by
        rw [run_mid s I K hIK (by omega) w, HMID.out]
      obtain ⟨c0, c1, c2, f0, f1, f2⟩ := s4.cells
      have hw0l : W0.length ≤ s.length := by have := HK.out; omega
      go_wp2_with fail
      clear rm c0 c1 c2 f0 f1 f2
      refine (refLarge_any W0 _ (by omega)).mono ?_
      rintro e w1 ⟨rfl, hb1⟩
      obtain ⟨WH, hWH⟩ : ∃ x, upL W0 = x := ⟨_, rfl⟩
      have hwhl : WH.length ≤ s.length := by rw [← hWH]; unfold upL; rw [List.length_map]; exact hw0l
      have hzr := hB.size
      rw [hg2] at hzr
      have t4 := (s4.later hb1).set1 WH
      have hz4 := (s4.later hb1).lt
      have t2 := (s2.later hb1).far (h := g4) (by omega) 1 (.string (bs WH))
      have town := (hown.below hb1).far (g := g4) (by omega) 1 (.string (bs WH))
      have tB : Below g2 w (w1.setCell ⟨g4, 1, none⟩ (.string (bs WH))) := below_set (hB.trans (hb1.mono hzr)) (by omega) _ _
      obtain ⟨c0, c1, c2, f0, f1, f2⟩ := (s4.later hb1).cells
      rw [hWH]
      go_upto_region 15 with fail
      have hz5 : g4 < (w1.setCell ⟨g4, 1, none⟩ (.string (bs WH))).heap.size := by simpa [World.setCell] using hz4
      generalize w1.setCell ⟨g4, 1, none⟩ (.string (bs WH)) = w5 at t4 t2 town tB hz5 ⊢
      clear c0 c1 c2 f0 f1 f2 s4 s2 hown hB hzr hz4 hb1
      obtain ⟨BB, hBB⟩ : ∃ b, decide (2 < DS.length ∧ DS[1]? = some 40) = b := ⟨_, rfl⟩
      have HBB := Lib.hid hBB
      obtain ⟨NS, hNS⟩ : ∃ x, namesR DS = x := ⟨_, rfl⟩
      have hns2 : (if BB = true then namesGo (s.drop (K + 2)) [] else []) = NS := by
        rw [← hNS, namesR, ← hBB, ← List.drop_drop, HDK.out]
        by_cases h : 2 < DS.length ∧ DS[1]? = some 40
        · rw [if_pos h, if_pos (by simpa using h)]
        · rw [if_neg h, if_neg (by simpa using h)]
      have HR2 := HR1.out
      rw [hWH, hNS] at HR2
      have HR3 := Lib.hid HR2
      have HNS := Lib.hid hns2
      have HWH := Lib.hid hWH
      clear hBB hNS hns2 HR2 HR1 hWH
      go_cut [106] (fun v6 wx => v6 = .bool BB ∧ wx = w5)
      case first =>
        clear t4 t2 town
        have h40 : ∀ c : UInt8, DS[1]? = some c → (c = 40 ↔ DS[1]? = some 40) := fun c h => ⟨fun e => e ▸ h, fun e => Option.some.inj (h.symm.trans e)⟩
        by_cases h1 : 2 < DS.length
        · have h1' : (K : Int) + 2 < s.length := by omega
          obtain ⟨c, hc⟩ : ∃ c, s[K + 1]? = some c := ⟨_, List.getElem?_eq_getElem (by omega)⟩
          have hx1 : (bs s)[K + 1]'(by rw [bs_size]; omega) = c := (List.getElem?_eq_some_iff.1 hc).2
          have hcd : DS[1]? = some c := by rw [← HDK.out, List.getElem?_drop]; exact hc
          have k40 := h40 c hcd
          clear h40 hc hcd
          rcases hb : ((c.toNat : Int) == 40) with _ | _
          · have hBf : BB = false := by
              rw [← HBB.out, decide_eq_false_iff_not]
              intro h
              have := k40.2 h.2
              rw [this] at hb
              exact absurd hb (by decide)
            clear k40
            go_wp2
            go_meet
            case rel => exact ⟨by rw [hBf], rfl⟩
          · have hBt : BB = true := by
              rw [← HBB.out, decide_eq_true_iff]
              refine ⟨h1, k40.1 ?_⟩
              apply UInt8.toNat_inj.1
              have := eq_of_beq hb
              show c.toNat = 40
              omega
            clear k40
            go_wp2
            go_meet
            case rel => exact ⟨by rw [hBt], rfl⟩
        · have hBf : BB = false := by
            rw [← HBB.out, decide_eq_false_iff_not]
            exact fun h => h1 h.1
          clear h40
          go_wp2
          go_meet
          case rel => exact ⟨by rw [hBf], rfl⟩
      case rest =>
        obtain ⟨rfl, rfl⟩ := hcut
        go_upto_if 106 with fail
        go_cut [8, 9] (fun _ _ wx => ∃ nv, SpecR wx g4 v WH nv ∧ SpecR wx g2 (.slice none 0 0) [] (.slice none 0 0) ∧ OwnI wx (g2 + 2) v PS ∧ Below g2 w wx ∧ OwnS wx (g2 + 2) nv NS ∧ NS.length ≤ s.length)
        case first =>
          cases BB with
          | false =>
            have e := HNS.out
            rw [if_neg (by decide)] at e
            subst e
            go_wp2
            go_meet
            case rel => exact ⟨_, t4, t2, town, tB, World.ownsRow_nil _ _ _ _, Nat.zero_le _⟩
          | true =>
            have e := HNS.out
            rw [if_pos rfl] at e
            have HNS2 := Lib.hid e
            have HBT := Lib.hid HBB.out
            clear e HNS HBB
            have hvb : ∀ k, v.ownBlock = some k → k < wc.heap.size := fun k hk => (World.ownsRow.lt town k hk).2
            have HVB := Lib.hid hvb
            clear hvb
            obtain ⟨BS, hBS⟩ : ∃ n, wc.heap.size = n := ⟨_, rfl⟩
            have hBS2 : g2 + 2 ≤ BS := by omega
            have hK2 : K + 2 < s.length := by
              have := of_decide_eq_true HBT.out
              omega
            rw [hBS] at HVB
            go_wp2_with fail
            go_loopw [8, 9] (fun v8 v9 wq => ∃ (fr p : Nat) (acc : List (List UInt8)) (nv : Value), fr ≤ p ∧ p ≤ s.length ∧ v8 = .int .i64 fr ∧ v9 = .int .i64 p ∧ SpecR wq g4 v WH nv ∧ SpecR wq g2 (.slice none 0 0) [] (.slice none 0 0) ∧ OwnI wq (g2 + 2) v PS ∧ OwnS wq BS nv acc ∧ Below g2 w wq ∧ BS ≤ wq.heap.size ∧ acc.length ≤ p ∧ Hid (acc ++ namesGo (s.drop p) ((s.drop fr).take (p - fr)) = NS)) (fun _ v9 _ => s.length - (intOf v9).toNat)
            case atStart => exact ⟨K + 2, K + 2, [], _, Nat.le_refl _, by omega, by go_num, by go_num, t4, t2, town, World.ownsRow_nil _ _ _ _, tB, by omega, Nat.zero_le _, by show _ = _; rw [Nat.sub_self, List.take_zero, List.nil_append]; exact HNS2.out⟩
            case round =>
              clear t4 t2 town tB
              obtain ⟨fr, p, acc, nv, hfp, hpl2, rfl, rfl, s4, s2, hown, hos, hB, hzB, hal, hng⟩ := hrel
              by_cases hlt : p < s.length
              · have hlt' : (p : Int) < s.length := by omega
                obtain ⟨c, hc⟩ : ∃ c, s[p]? = some c := ⟨_, List.getElem?_eq_getElem hlt⟩
                have hx : (bs s)[p]'(by rw [bs_size]; exact hlt) = c := (List.getElem?_eq_some_iff.1 hc).2
                obtain ⟨cur, hcur⟩ : ∃ x, (s.drop fr).take (p - fr) = x := ⟨_, rfl⟩
                have hcur2 : (s.drop fr).take (p + 1 - fr) = cur ++ [c] := by
                  rw [← hcur, show p + 1 - fr = (p - fr) + 1 by omega, List.take_add_one, List.getElem?_drop, show fr + (p - fr) = p by omega, hc]
                  rfl
                have hcl : cur.length ≤ s.length := by rw [← hcur]; simp; omega
                have e := hng.out
                rw [drop_cons hc, hcur, namesGo] at e
                have HC := Lib.hid hcur
                have HC2 := Lib.hid hcur2
                have E := Lib.hid e
                clear hc hcur hcur2 e hng
                obtain ⟨BM, hBM⟩ : ∃ b, decide (c = 32 ∨ c = 41) = b := ⟨_, rfl⟩
                have HBM := Lib.hid hBM
                clear hBM
                obtain ⟨wo, hwo⟩ : ∃ wo, wo = wr := ⟨_, rfl⟩
                subst hwo
                go_upto_region 20 with fail
                go_cut [125] from 110 to 136 (fun v wx => v = .bool BM ∧ wx = wo)
                case first =>
                  have n32 : ((c.toNat : Int) == 32) = true → c = 32 := fun h => by
                    apply UInt8.toNat_inj.1
                    have := eq_of_beq h
                    show c.toNat = 32
                    omega
                  have n41 : ((c.toNat : Int) == 41) = true → c = 41 := fun h => by
                    apply UInt8.toNat_inj.1
                    have := eq_of_beq h
                    show c.toNat = 41
                    omega
                  have N32 := Lib.hid n32
                  have N41 := Lib.hid n41
                  clear n32 n41 s4 s2 hown hos
                  rcases b1 : ((c.toNat : Int) == 32) with _ | _
                  · rcases b2 : ((c.toNat : Int) == 41) with _ | _
                    · have hM : BM = false := by
                        rw [← HBM.out, decide_eq_false_iff_not]
                        rintro (h | h)
                        · rw [h] at b1; exact absurd b1 (by decide)
                        · rw [h] at b2; exact absurd b2 (by decide)
                      go_wp2
                      go_meet
                      case rel => exact ⟨by rw [hM], rfl⟩
                    · have hM : BM = true := by
                        rw [← HBM.out, decide_eq_true_iff]
                        exact .inr (N41.out b2)
                      go_wp2
                      go_meet
                      case rel => exact ⟨by rw [hM], rfl⟩
                  · have hM : BM = true := by
                      rw [← HBM.out, decide_eq_true_iff]
                      exact .inl (N32.out b1)
                    go_wp2
                    go_meet
                    case rel => exact ⟨by rw [hM], rfl⟩
                case rest =>
                  obtain ⟨rfl, rfl⟩ := hcut
                  clear hx
                  cases BM with
                  | false =>
                    have e := E.out
                    rw [if_neg (of_decide_eq_false HBM.out), ← HC2.out] at e
                    have E2 := Lib.hid e
                    clear e E HBM HC HC2
                    go_wp2
                    go_roundw
                    case rel => exact ⟨fr, p + 1, acc, nv, by omega, by omega, by trivial, by go_num, s4, s2, hown, hos, hB, hzB, by omega, E2.out⟩
                    case measure => simp [intOf]; omega
                  | true =>
                    have e := E.out
                    rw [if_pos (of_decide_eq_true HBM.out)] at e
                    have E2 := Lib.hid e
                    clear e E HBM
                    have rm : ∀ w, (Instr.slice 9 (.string (bs s)) (some (.int .i64 fr)) (some (.int .i64 p)) none).run Tryd.prog w = .ok (.string (bs cur)) w := fun w => by
                      rw [run_mid s fr p hfp (by omega) w, HC.out]
                    obtain ⟨c0, c1, c2, f0, f1, f2⟩ := s4.cells
                    go_upto_region 21 with fail
                    have A2 := fun o => cell_alloc c2 o
                    have hlow := fun i e => World.ownsRow.lt hos i e
                    have hz4 := s4.lt
                    have SS4 := Lib.hid s4
                    clear s4
                    go_region_law ((refine step_append_lies _ (by rfl) _ _ _ (by rfl) BS 9 i0 _ 1 16 Tryd.underlying27 hi0 hz0 hz1 hz2 rfl (by omega) nv acc.length (cellsS acc) (by rfl) ((World.ownsRow.alloc hos _).drew) ⟨wc.heap.size, 0, none⟩ 1 1 [.string (bs cur)] (by rfl) (by rfl) (World.news_of_block (cs := #[.string (bs cur)]) (t := 9) (fr := (0, 0)) (heap_new wc _)) (by simp [Value.oneCell']) (by omega) (by unfold maxLen; omega) (by omega) (by simp; omega) (wc.heap.size + 1) (by simp) ?_; intro gg cap w2 hown2 hgrow hat hlt2; have hk2 : SpecR w2 g4 v WH nv := (hgrow.block g4 (by simp; omega) (fun e => by have := hlow _ e.symm; omega)).trans ((heap_old wc _ _ hz4).trans SS4.out); obtain ⟨a0, a1, a2, y0, y1, y2⟩ := hk2.cells))
                    all_goals
                      have o2 : OwnS w2 BS (.slice (some ⟨gg, 0, none⟩) (acc.length + 1) cap) (acc ++ [cur]) := OwnS.step hown2
                      have hgg := (World.ownsRow.lt o2 gg rfl).1
                      have q2 := hk2.set2 (.slice (some ⟨gg, 0, none⟩) (acc.length + 1) cap)
                      have q0 : SpecR w2 g2 (.slice none 0 0) [] (.slice none 0 0) := (hgrow.block g2 (by simp; omega) (fun e => by have := hlow _ e.symm; omega)).trans ((heap_old wc _ _ (by omega)).trans s2)
                      have qo : OwnI w2 (g2 + 2) v PS := (hown.later (w' := w2) fun k hk => (hgrow.block k (by have := (World.ownsRow.lt hown k hk).2; simp; omega) (fun e => by have := hlow _ e.symm; have := HVB.out k hk; omega)).trans (heap_old wc _ _ (World.ownsRow.lt hown k hk).2))
                      have qB : Below g2 w w2 := ((hB.alloc (by omega) _).drew).grown hgrow (by simp; omega) (fun i e => by have := hlow i e; omega)
                      have qs := qB.size
                      have hw2 := hgrow.size
                      have o3 := o2.far (g := g4) (by omega) 2 (.slice (some ⟨gg, 0, none⟩) (acc.length + 1) cap)
                      have E3 : Hid ((acc ++ [cur]) ++ namesGo (s.drop (p + 1)) ((s.drop (p + 1)).take (p + 1 - (p + 1))) = NS) := by
                        show _ = _
                        rw [Nat.sub_self, List.take_zero, ← E2.out]
                        simp
                      clear hown2 hgrow hat hlt2 hown hos hB hlow SS4 s2 hk2 o2 E2 HC HC2 A2 rm
                      go_wp2
                      go_roundw
                      case rel => exact ⟨p + 1, p + 1, acc ++ [cur], _, Nat.le_refl _, by omega, by go_num, by go_num, q2, q0.far (by omega) _ _, qo.far (by omega) _ _, o3, below_set qB (by omega) _ _, by simp [World.setCell] at hw2 ⊢; omega, by simp; omega, E3.out⟩
                      case measure => simp [intOf]; omega
              · have e := hng.out
                rw [List.drop_eq_nil_of_le (by omega), namesGo, List.append_nil] at e
                subst e
                clear hng
                go_wp2
                go_meet
                case rel => exact ⟨nv, s4, s2, hown, hB, hos.base hBS2, by omega⟩
        case rest =>
          clear t4 t2 town tB hz5
          obtain ⟨nv, s4, s2, hown, hB, hos, hnl⟩ := hcut
          have hNl : ∀ n ∈ NS, n.length ≤ s.length := by
            intro n hn
            rw [← HNS.out] at hn
            split at hn
            · have := namesGo_len _ _ n hn
              simp at this
              omega
            · cases hn
          have HNL := Lib.hid hNl
          have hzr := hB.size
          rw [hg2] at hzr
          have hz4 := s4.lt
          obtain ⟨va, vn, vc, rfl⟩ := hown.form
          obtain ⟨na, nn, nc, rfl, hnn⟩ := hos.form
          obtain ⟨c0, c1, c2, f0, f1, f2⟩ := s4.cells
          clear hNl HNS HBB
          go_wp2_with fail
          clear c0 c1 c2 f0 f1 f2
          have hra := refRight_any (.slice va vn vc) (.slice na nn nc) PS WH NS wc hown.ints hos.strs (fun n hn => by have := HNL.out n hn; omega) (by omega) (by omega)
          rw [right_same] at hra
          refine hra.mono ?_
          rintro e w1 ⟨rfl, hb1⟩
          clear hra
          have t4 := s4.later hb1
          have t2 := s2.later hb1
          have town := hown.below hb1
          have tos : OwnS w1 (g2 + 2) (.slice na nn nc) NS := hos.later fun k hk => hb1.block k (World.ownsRow.lt hos k hk).2
          have tB : Below g2 w w1 := hB.trans (hb1.mono hzr)
          have hz1 := hb1.size
          clear s4 s2 hown hos hB hb1 hzr
          obtain ⟨k0, k1, k2, e0, e1, e2⟩ := t2.cells
          rcases hb : rightL PS WH NS with _ | _
          · have hR5 : R = none := by rw [← HR3.out, if_neg (by rw [hb]; simp)]
            subst hR5
            clear hb HR3
            go_wp2
            obtain ⟨r2, rB⟩ := err_worldR t2 tB
            generalize ((w1.setCell ⟨g2, 0, none⟩ (.slice none 0 0)).setCell ⟨g2, 1, none⟩ (.string ⟨#[]⟩)).setCell ⟨g2, 2, none⟩ (.slice none 0 0) = w7 at r2 rB ⊢
            clear k0 k1 k2 e0 e1 e2
            obtain ⟨k0, k1, k2, e0, e1, e2⟩ := r2.cells
            refine bodyPost_ret (v := .tuple #[.agg #[.slice none 0 0, .string (bs []), .slice none 0 0], .bool false]) (by simp [results, Tryd.results9, go_sem, k0, k1, k2, e0, e1, e2]) rfl ⟨rfl, by rw [hg2]; exact rB⟩
          · have hR5 : (if textL PS WH NS = upTo s then some (PS, WH, NS) else none) = R := by rw [← HR3.out, hb]; simp
            obtain ⟨r1, r2, r3, r4, _, _⟩ := right_parts hb
            have HR5 := Lib.hid hR5
            have R3 := Lib.hid r3
            have R4 := Lib.hid r4
            clear hb HR3 hR5 r3 r4
            obtain ⟨c0, c1, c2, f0, f1, f2⟩ := t4.cells
            go_wp2_with fail
            clear c0 c1 c2 f0 f1 f2
            refine (refText_any (.slice va vn vc) (.slice na nn nc) PS WH NS w1 town.ints tos.strs (fun n hn => by have := HNL.out n hn; omega) r1 r2 (by omega) R3.out).mono ?_
            rintro e w2 ⟨rfl, hb2⟩
            obtain ⟨T, hT⟩ : ∃ x, textL PS WH NS = x := ⟨_, rfl⟩
            rw [hT] at HR5 ⊢
            have hup : upTo s = pre ++ (WH ++ DS) := by
              rw [← HWH.out]
              refine upTo_parts ?_ HPR2.out HPR3.out (by rw [← HW0.out]; exact take_noblank RS) (by rw [← HDS.out]; exact drop_upTo RS)
              rw [← HW0.out, ← HDS.out, List.takeWhile_append_dropWhile]
              exact HPRE.out
            have hWl : W0.length = WH.length := by rw [← HWH.out]; unfold upL; rw [List.length_map]
            have hiff := parts_iff T pre WH DS s.length I K HI.out (by rw [← hWl]; exact HK.out) hKl
            rw [← hup] at hiff
            obtain ⟨TB, hTB⟩ : ∃ b, decide (T = upTo s) = b := ⟨_, rfl⟩
            have hTB2 : decide (T.length = s.length ∧ T.take I = pre ∧ (T.drop I).take (K - I) = WH ∧ T.drop K = DS) = TB := by
              rw [← hTB]
              exact decide_eq_decide.2 hiff.symm
            have HTB := Lib.hid hTB
            have HTB2 := Lib.hid hTB2
            have htI : s.take I = pre := by
              have := HPRE.out
              rw [this, ← HI.out]; simp
            have sI : ∀ w, (Instr.slice 9 (.string (bs s)) none (some (.int .i64 I)) none).run Tryd.prog w = .ok (.string (bs pre)) w := fun w => by rw [run_to s I (by omega) w, htI]
            have sM : ∀ w, (Instr.slice 9 (.string (bs s)) (some (.int .i64 I)) (some (.int .i64 K)) none).run Tryd.prog w = .ok (.string (bs W0)) w := fun w => by
              rw [run_mid s I K hIK (by omega) w, HMID.out]
            have sK : ∀ w, (Instr.slice 9 (.string (bs s)) (some (.int .i64 K)) none none).run Tryd.prog w = .ok (.string (bs DS)) w := fun w => by rw [run_from s K (by omega) w, HDK.out]
            have hlarge : ∀ w, Calls Tryd.prog 23 #[.string (bs W0)] w fun e w' => e = .returned (.string (bs WH)) ∧ Below w.heap.size w w' := fun w => by
              rw [← HWH.out]; exact refLarge_any W0 w (by omega)
            have HL := Lib.hid hlarge
            have HSI := Lib.hid sI
            have HSM := Lib.hid sM
            have HSK := Lib.hid sK
            clear hTB hTB2 hiff hup htI sI sM sK hlarge hWl
            go_upto_region 26 with fail
            have u4 := t4.later hb2
            have u2 := t2.later hb2
            have uown := town.below hb2
            have uos : OwnS w2 (g2 + 2) (.slice na nn nc) NS := tos.later fun k hk => hb2.block k (World.ownsRow.lt tos k hk).2
            have uB : Below g2 w w2 := tB.trans (hb2.mono (by have := tB.size; rw [hg2] at this; omega))
            clear t4 t2 town tos tB hb2 k0 k1 k2 e0 e1 e2
            go_cut [177] (fun v wx => v = .bool (!TB) ∧ ∃ gw : Grow w2, wx = gw.v)
            case first =>
              by_cases q1 : T.length = s.length
              · have sI := HSI.out
                have sM := HSM.out
                have sK := HSK.out
                have tI := fun w => run_to T I (by omega) w
                have tM := fun w => run_mid T I K hIK (by omega) w
                have tK := fun w => run_from T K (by omega) w
                have hn : ((T.length : Int) != (s.length : Int)) = false := by rw [q1]; simp
                obtain ⟨T1, hT1⟩ : ∃ x, T.take I = x := ⟨_, rfl⟩
                obtain ⟨T2, hT2⟩ : ∃ x, (T.drop I).take (K - I) = x := ⟨_, rfl⟩
                obtain ⟨T3, hT3⟩ : ∃ x, T.drop K = x := ⟨_, rfl⟩
                rw [hT1] at tI
                rw [hT2] at tM
                rw [hT3] at tK
                have HT1 := Lib.hid hT1
                have HT2 := Lib.hid hT2
                have HT3 := Lib.hid hT3
                have Q1 := Lib.hid q1
                clear hT1 hT2 hT3 q1 u4 u2 uown uos uB
                have hv : TB = (T1 == pre && T2 == WH && T3 == DS) := by
                  rw [← HTB2.out, HT1.out, HT2.out, HT3.out, Bool.eq_iff_iff]
                  simp [Q1.out, and_assoc]
                have HV := Lib.hid hv
                clear hv
                go_wp2
                refine wp_region_grow (by kernel_rfl) (by kernel_rfl) ?_
                rcases b1 : (T1 == pre) with _ | _
                · have hTf : TB = false := by rw [HV.out, b1]; rfl
                  repeat (go_big_quiet_step (fail))
                  refine wpQuiet_nil ?_
                  rintro _ ⟨gw, rfl⟩
                  go_wp2
                  go_meet
                  case rel => exact ⟨by rw [hTf]; rfl, gw, rfl⟩
                · rcases b2 : (T2 == WH) with _ | _
                  · have hTf : TB = false := by rw [HV.out, b1, b2]; rfl
                    repeat (go_big_quiet_step ((go_at_call 23; exact grow_call (HL.out _))))
                    refine wpQuiet_nil ?_
                    rintro _ ⟨gw, rfl⟩
                    go_wp2
                    go_meet
                    case rel => exact ⟨by rw [hTf]; rfl, gw, rfl⟩
                  · have hTf : TB = (T3 == DS) := by rw [HV.out, b1, b2]; rfl
                    repeat (go_big_quiet_step ((go_at_call 23; exact grow_call (HL.out _))))
                    refine wpQuiet_nil ?_
                    rintro _ ⟨gw, rfl⟩
                    go_wp2
                    go_meet
                    case rel => exact ⟨by rw [hTf], gw, rfl⟩
              · have hn : ((T.length : Int) != (s.length : Int)) = true := by simp; omega
                have hTf : TB = false := by
                  rw [← HTB2.out, decide_eq_false_iff_not]
                  exact fun h => q1 h.1
                clear u4 u2 uown uos uB
                go_wp2
                refine wp_region_grow (by kernel_rfl) (by kernel_rfl) ?_
                repeat (go_big_quiet_step (fail))
                refine wpQuiet_nil ?_
                rintro _ ⟨gw, rfl⟩
                go_wp2
                go_meet
                case rel => exact ⟨by rw [hTf]; rfl, gw, rfl⟩
            case rest =>
              obtain ⟨rfl, gw, rfl⟩ := hcut
              clear HL HSI HSM HSK HTB2
              have t4 := u4.later gw.h
              have t2 := u2.later gw.h
              have town := uown.below gw.h
              have tos : OwnS gw.v (g2 + 2) (.slice na nn nc) NS := uos.later fun k hk => gw.h.block k (World.ownsRow.lt uos k hk).2
              have tB : Below g2 w gw.v := uB.trans (gw.h.mono (by have := uB.size; rw [hg2] at this; omega))
              generalize gw.v = w3 at t4 t2 town tos tB ⊢
              clear u4 u2 uown uos uB
              obtain ⟨c0, c1, c2, f0, f1, f2⟩ := t4.cells
              obtain ⟨k0, k1, k2, e0, e1, e2⟩ := t2.cells
              cases TB with
              | false =>
                have hR9 : R = none := by rw [← HR5.out, if_neg (of_decide_eq_false HTB.out)]
                subst hR9
                clear HR5 HTB c0 c1 c2 f0 f1 f2
                go_wp2
                obtain ⟨r2, rB⟩ := err_worldR t2 tB
                generalize ((w3.setCell ⟨g2, 0, none⟩ (.slice none 0 0)).setCell ⟨g2, 1, none⟩ (.string ⟨#[]⟩)).setCell ⟨g2, 2, none⟩ (.slice none 0 0) = w7 at r2 rB ⊢
                clear k0 k1 k2 e0 e1 e2
                obtain ⟨k0, k1, k2, e0, e1, e2⟩ := r2.cells
                refine bodyPost_ret (v := .tuple #[.agg #[.slice none 0 0, .string (bs []), .slice none 0 0], .bool false]) (by simp [results, Tryd.results9, go_sem, k0, k1, k2, e0, e1, e2]) rfl ⟨rfl, by rw [hg2]; exact rB⟩
              | true =>
                have hR9 : R = some (PS, WH, NS) := by rw [← HR5.out, if_pos (of_decide_eq_true HTB.out)]
                subst hR9
                clear HR5 HTB
                go_wp2
                obtain ⟨r2, rB, ri, rs⟩ := ok_worldR WH t2 tB town tos
                generalize ((w3.setCell ⟨g2, 0, none⟩ (.slice va vn vc)).setCell ⟨g2, 1, none⟩ (.string (bs WH))).setCell ⟨g2, 2, none⟩ (.slice na nn nc) = w7 at r2 rB ri rs ⊢
                clear k0 k1 k2 e0 e1 e2
                obtain ⟨k0, k1, k2, e0, e1, e2⟩ := r2.cells
                refine bodyPost_ret (v := .tuple #[.agg #[.slice va vn vc, .string (bs WH), .slice na nn nc], .bool true]) (by simp [results, Tryd.results9, go_sem, k0, k1, k2, e0, e1, e2]) rfl ⟨⟨_, _, rfl, ri, rs⟩, by rw [hg2]; exact rB⟩

end Go.Proofs.YtgkbigbekmkobaaDoor
