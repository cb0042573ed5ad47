/- mbox.Compact, over the closure of MboxKeeps. -/
import Derived.Test.YtcjnpklmfcbofaaDoorME
import Derived.Test.YtcjnpklmfcbofaaDoorBd
set_option linter.unusedVariables false
set_option linter.unusedSimpArgs false
namespace Go.Proofs.YtcjnpklmfcbofaaDoor
open Go.RowKit Go

/-- what is kept, from the i-th on -/
def keptE {α : Type} (ks : List Bool) : Nat → List α → List α
  | _, [] => []
  | i, e :: es => if ks.getD i false = true then e :: keptE ks (i + 1) es else keptE ks (i + 1) es
theorem keptE_map {α β : Type} (f : α → β) (ks : List Bool) : ∀ (es : List α) (i : Nat), (keptE ks i es).map f = keptE ks i (es.map f)
  | [], i => rfl
  | e :: es, i => by
    simp only [keptE, List.map_cons]
    split
    · rw [List.map_cons, keptE_map f ks es]
    · exact keptE_map f ks es _
theorem keptE_mem {α : Type} (ks : List Bool) : ∀ (es : List α) (i : Nat), ∀ e ∈ keptE ks i es, e ∈ es
  | [], i, e, h => h
  | x :: es, i, e, h => by
    unfold keptE at h
    split at h
    · rcases List.mem_cons.1 h with rfl | h
      · simp
      · exact List.mem_cons_of_mem _ (keptE_mem ks es _ e h)
    · exact List.mem_cons_of_mem _ (keptE_mem ks es _ e h)
theorem keptE_take {α : Type} (ks : List Bool) : ∀ (es : List α) (i k : Nat) (e : α), es[k]? = some e → keptE ks i (es.take (k + 1)) = keptE ks i (es.take k) ++ (if ks.getD (i + k) false = true then [e] else [])
  | [], i, k, e, h => by simp at h
  | x :: es, i, 0, e, h => by
    obtain rfl : x = e := by simpa using h
    simp only [List.take_succ_cons, List.take_zero, keptE, Nat.add_zero, List.nil_append]
  | x :: es, i, k + 1, e, h => by
    have ih := keptE_take ks es (i + 1) k e (by simpa using h)
    rw [show i + 1 + k = i + (k + 1) by omega] at ih
    rw [List.take_succ_cons, List.take_succ_cons, keptE, keptE]
    split
    · rw [ih, List.cons_append]
    · exact ih
theorem keptE_len {α : Type} (ks : List Bool) : ∀ (es : List α) (i : Nat), (keptE ks i es).length ≤ es.length
  | [], i => Nat.le_refl _
  | e :: es, i => by
    have := keptE_len ks es (i + 1)
    unfold keptE
    split <;> simp <;> omega

/-- a slice that reads as the truths ks, in blocks below n -/
def ArgV (w : World) (n : Nat) (v : Value) (ks : List Bool) : Prop := ∃ a c, v = .slice a ks.length c ∧ ∀ j, j < ks.length → ∃ b o, a = some ⟨b, o, none⟩ ∧ b < n ∧ w.cell? ⟨b, o + j, none⟩ = some (.bool (ks.getD j false))
theorem ArgV.later {w w' : World} {n : Nat} {v : Value} {ks : List Bool} (h : ArgV w n v ks) (hb : ∀ k : Nat, k < n → w'.heap[k]? = w.heap[k]?) : ArgV w' n v ks := by
  obtain ⟨a, c, rfl, h⟩ := h
  refine ⟨a, c, rfl, fun j hj => ?_⟩
  obtain ⟨b, o, h1, h2, h3⟩ := h j hj
  refine ⟨b, o, h1, h2, ?_⟩
  rw [← h3]
  simp only [World.cell?, hb b h2]

theorem cell_of1 {w : World} {b : Nat} {t : TypeId} {v : Value} (h : w.heap[b]? = some (.cells #[v] t (0, 0))) : w.cell? ⟨b, 0, none⟩ = some v := by simp [World.cell?, h]
theorem frozen_of1 {w : World} {b : Nat} {t : TypeId} {v : Value} (h : w.heap[b]? = some (.cells #[v] t (0, 0))) : w.frozen? ⟨b, 0, none⟩ = false := by simp [World.frozen?, h]
theorem set_of1 {w : World} {b : Nat} {t : TypeId} {v v' : Value} (h : w.heap[b]? = some (.cells #[v] t (0, 0))) : (w.setCell ⟨b, 0, none⟩ v').heap[b]? = some (.cells #[v'] t (0, 0)) := by
  simp [World.setCell, Array.getElem?_modify, h]
theorem cell_far {w : World} {b k o : Nat} {v : Value} (h : k ≠ b) : (w.setCell ⟨b, 0, none⟩ v).cell? ⟨k, o, none⟩ = w.cell? ⟨k, o, none⟩ := by
  have := Below.heap_setCell w ⟨b, 0, none⟩ v k (by simpa using h)
  simp only [World.cell?, this]

set_option maxRecDepth 100000 in
set_option maxHeartbeats 1000000 in
theorem keep_any (i n pa pk : Nat) (kv : Value) (ks : List Bool) (w : World) (hne : pk ≠ pa) (ha : w.heap[pa]? = some (.cells #[.int .i64 i] 3 (0, 0))) (hk : w.heap[pk]? = some (.cells #[kv] 35 (0, 0)))
    (hv : ArgV w n kv ks) (hn : n ≤ pa) (hi : i ≤ 1000) :
    Calls Tryd.prog 12 #[.int .i64 i, .pointer (some ⟨pa, 0, none⟩), .pointer (some ⟨pk, 0, none⟩)] w fun e w' => e = .returned (.bool (ks.getD i false)) ∧ w.setCell ⟨pa, 0, none⟩ (.int .i64 ((i : Int) + 1)) = w' := by
  obtain ⟨a, c, rfl, hc⟩ := hv
  have a0 := cell_of1 ha
  have a1 := frozen_of1 ha
  have k0 := cell_of1 hk
  have k1 : (w.setCell ⟨pa, 0, none⟩ (.int .i64 ((i : Int) + 1))).cell? ⟨pk, 0, none⟩ = some (.slice a ks.length c) := (cell_far hne).trans k0
  have HC := Lib.hid hc
  clear hc ha hk
  by_cases hlt : i < ks.length
  · obtain ⟨b, o, rfl, hb, hcell⟩ := HC.out i hlt
    have hlt' : (i : Int) < ks.length := by omega
    have k2 : (w.setCell ⟨pa, 0, none⟩ (.int .i64 ((i : Int) + 1))).cell? ⟨b, o + i, none⟩ = some (.bool (ks.getD i false)) := (cell_far (by omega)).trans hcell
    obtain ⟨q, hq⟩ : ∃ q, ks.getD i false = q := ⟨_, rfl⟩
    rw [hq] at k2 ⊢
    clear hcell hq HC k0
    go_enter Tryd.func12, Tryd.ntmps12
    go_wp2
    go_ret
    exact ⟨rfl, rfl⟩
  · have hlt' : ¬ (i : Int) < ks.length := by omega
    have hq : ks.getD i false = false := by simp [List.getD, show ks.length ≤ i by omega]
    rw [hq]
    clear hq HC k0
    go_enter Tryd.func12, Tryd.ntmps12
    go_wp2
    go_ret
    exact ⟨rfl, rfl⟩

theorem BldAt.later {w w' : World} {B b : Nat} {l : List UInt8} (h : BldAt w B b l) (hb : ∀ k : Nat, B ≤ k → k < w.heap.size → w'.heap[k]? = w.heap[k]?) : BldAt w' B b l := by
  have key : ∀ p, Lib.BuilderAt 57 5 B b p (Lib.byteCells l) w → Lib.BuilderAt 57 5 B b p (Lib.byteCells l) w' := by
    rintro p ⟨h1, v, h2, h3, h4⟩
    refine ⟨h1, v, (hb b h1 (Array.getElem?_eq_some_iff.1 h2).1).trans h2, ⟨h3.1, ?_⟩, h4⟩
    rcases h3.2 with h0 | ⟨g, cap, cur, rfl, k1, k2, r⟩
    · exact .inl h0
    · exact .inr ⟨g, cap, cur, rfl, k1, (hb g k1 (Array.getElem?_eq_some_iff.1 k2).1).trans k2, r⟩
  rcases h with h | h
  · exact .inl (key _ h)
  · exact .inr (key _ h)
def pieceOf (F : List UInt8) (s : Sp) : List UInt8 := (F.drop s.head).take (s.fin - s.head)
theorem flat_le {n : Nat} : ∀ (ls : List (List UInt8)), (∀ l ∈ ls, l.length ≤ n) → ls.flatten.length ≤ ls.length * n
  | [], _ => by simp
  | l :: ls, h => by
    have h1 := h l (by simp)
    have ih := flat_le ls (fun x hx => h x (List.mem_cons_of_mem _ hx))
    simp only [List.flatten_cons, List.length_append, List.length_cons, Nat.succ_mul]
    omega
/-- all blocks below n but pa are as they were -/
structure ButAt (n pa : Nat) (w w' : World) : Prop where
  below : Below pa w w'
  block : ∀ k : Nat, k < n → k ≠ pa → w'.heap[k]? = w.heap[k]?

set_option maxRecDepth 100000 in
set_option maxHeartbeats 4000000 in
theorem compact_any (F : List UInt8) (ss : List Sp) (x : Addr) (ks : List Bool) (n pa pk : Nat) (kv : Value) (w : World) (hl : F.length ≤ 1000000) (hE : w.cell? ⟨1, 0, none⟩ = some (errV x)) (hsc : scanL F = some ss) (hss : ss.length ≤ 1000)
    (hne : pk ≠ pa) (ha : w.heap[pa]? = some (.cells #[.int .i64 0] 3 (0, 0))) (hk : w.heap[pk]? = some (.cells #[kv] 35 (0, 0))) (hv : ArgV w n kv ks) (hn : n ≤ pa) :
    Calls Tryd.prog 11 #[.string (bs F), .func (.func 12) #[] #[.pointer (some ⟨pa, 0, none⟩), .pointer (some ⟨pk, 0, none⟩)]] w fun e w' => e = .returned (.tuple #[.string (bs (keptE ks 0 (ss.map (pieceOf F))).flatten), .nilIface]) ∧ ButAt w.heap.size pa w w' ∧ w'.heap[pa]? = some (.cells #[.int .i64 ss.length] 3 (0, 0)) := by
  have hscan := scan_any F x w (by omega) hE
  rw [hsc] at hscan
  have hbd := (scan_bd hsc).2
  have hpa : pa < w.heap.size := (Array.getElem?_eq_some_iff.1 ha).1
  have hpk : pk < w.heap.size := (Array.getElem?_eq_some_iff.1 hk).1
  have hpl : ∀ (k : Nat), (keptE ks 0 ((ss.map (pieceOf F)).take k)).flatten.length ≤ 1000000000 := by
    intro k
    have h1 := flat_le (n := 1000000) (keptE ks 0 ((ss.map (pieceOf F)).take k)) (fun l hm => by
      have := keptE_mem ks _ 0 l hm
      obtain ⟨s, _, rfl⟩ := List.mem_map.1 (List.mem_of_mem_take this)
      unfold pieceOf
      simp; omega)
    have h2 := keptE_len ks ((ss.map (pieceOf F)).take k) 0
    have h3 : ((ss.map (pieceOf F)).take k).length ≤ 1000 := by simp; omega
    have h5 : (keptE ks 0 ((ss.map (pieceOf F)).take k)).length ≤ 1000 := by omega
    clear h2 h3
    omega
  have HSC := Lib.hid hscan
  have HBD := Lib.hid hbd
  have HPL := Lib.hid hpl
  have HA := Lib.hid ha
  have HK := Lib.hid hk
  have HV := Lib.hid hv
  clear hscan hsc hbd hpl ha hk hv hE
  go_enter Tryd.func11, Tryd.ntmps11
  go_wp2_with fail
  refine HSC.out.mono ?_
  clear HSC
  rintro e w2 ⟨⟨v, rfl, ho⟩, hb2⟩
  have hz2 := hb2.size
  have hbl := BldAt.new w2 w2.heap.size (Nat.le_refl _)
  have ha2 := (hb2.block pa hpa).trans HA.out
  have hk2 := (hb2.block pk hpk).trans HK.out
  have hv2 := HV.out.later (fun k hk => hb2.block k (by omega))
  obtain ⟨va, vn, vc, rfl, hvn⟩ := ho.form
  obtain rfl : vn = ss.length := hvn.out
  have HO := Lib.hid ho
  have HBL := Lib.hid hbl
  have HA2 := Lib.hid ha2
  have HK2 := Lib.hid hk2
  have HV2 := Lib.hid hv2
  have hpa2 : Below pa w w2 := hb2.mono (by omega)
  obtain ⟨B, hB⟩ : ∃ B, w2.heap.size = B := ⟨_, rfl⟩
  clear hvn ho hbl ha2 hk2 hv2 HA HK HV
  go_wp2
  rw [hB] at HBL
  go_loopw [9, 10, 21] (fun _ _ v21 wr => ∃ k : Nat, k ≤ ss.length ∧ v21 = .int .i64 k ∧ Hid (BldAt wr B B (keptE ks 0 ((ss.map (pieceOf F)).take k)).flatten) ∧ B < wr.heap.size ∧ Hid (wr.heap[pa]? = some (.cells #[.int .i64 k] 3 (0, 0))) ∧ Below pa w wr ∧ Hid (∀ j : Nat, j < B → j ≠ pa → wr.heap[j]? = w2.heap[j]?)) (fun _ _ v21 _ => ss.length - (intOf v21).toNat)
  case atStart => exact ⟨0, Nat.zero_le _, rfl, HBL.out, by simp; omega, by show _ = _; rw [heap_old _ _ _ (by omega)]; exact HA2.out, hpa2.alloc (by omega) _, fun j hj _ => heap_old _ _ _ (by omega)⟩
  case round =>
    obtain ⟨k, hk, rfl, hbl, hsz, hak, hbw, hold⟩ := hrel
    by_cases hlt : k < ss.length
    · obtain ⟨sp, hsp⟩ : ∃ y, ss[k]? = some y := ⟨_, List.getElem?_eq_getElem hlt⟩
      have hlow := fun i e => World.ownsRow.lt HO.out i e
      have ho := HO.out.later (w' := wr) (fun j hj => hold.out j (by have := (hlow j hj).2; omega) (by have := (hlow j hj).1; omega))
      obtain ⟨ga, ca, ea, _, hla⟩ := ho.parts.resolve_left (fun h => by rw [h.2] at hlt; simp at hlt)
      simp only [Value.slice.injEq] at ea
      obtain ⟨rfl, hxx, rfl⟩ := ea
      obtain ⟨x0, x1, x2⟩ := cells3 ho k sp hsp
      obtain ⟨s1, s2, s3, _⟩ := HBD.out sp (List.mem_of_getElem? hsp)
      have rm := fun w0 => run_mid F sp.head sp.fin (by omega) s3 w0
      have hpc : (F.drop sp.head).take (sp.fin - sp.head) = pieceOf F sp := rfl
      obtain ⟨T, hT⟩ : ∃ T, pieceOf F sp = T := ⟨_, rfl⟩
      have hTl : T.length ≤ 1000000 := by rw [← hT]; unfold pieceOf; simp; omega
      rw [hpc, hT] at rm
      have hmk : (ss.map (pieceOf F))[k]? = some T := by rw [List.getElem?_map, hsp, ← hT]; rfl
      have htk := keptE_take ks _ 0 k T hmk
      rw [Nat.zero_add] at htk
      have hlen := HPL.out k
      obtain ⟨L, hL⟩ : ∃ L, (keptE ks 0 ((ss.map (pieceOf F)).take k)).flatten = L := ⟨_, rfl⟩
      have hnx := congrArg List.flatten htk
      rw [List.flatten_append, hL] at hnx
      rw [hL] at hbl hlen
      obtain ⟨W1, hW1⟩ : ∃ W1, wr.alloc (.cells #[.int .i64 sp.head, .int .i64 sp.body, .int .i64 sp.fin] 32) = W1 := ⟨_, rfl⟩
      have ho1 : ∀ j : Nat, j < wr.heap.size → W1.heap[j]? = wr.heap[j]? := fun j hj => by rw [← hW1]; exact heap_old _ _ _ hj
      have hn1 : W1.heap[wr.heap.size]? = some (.cells #[.int .i64 sp.head, .int .i64 sp.body, .int .i64 sp.fin] 32 (0, 0)) := by rw [← hW1]; exact heap_new _ _
      have hs1 : W1.heap.size = wr.heap.size + 1 := by rw [← hW1]; simp
      have hbw1 : Below pa w W1 := by rw [← hW1]; exact hbw.alloc (by omega) _
      have hak1 := (ho1 pa (by omega)).trans hak.out
      have hkk1 := (ho1 pk (by omega)).trans ((hold.out pk (by omega) hne).trans HK2.out)
      have hvv1 := HV2.out.later (w' := W1) (fun j hj => (ho1 j (by omega)).trans (hold.out j (by omega) (by omega)))
      have hkp := keep_any k n pa pk kv ks W1 hne hak1 hkk1 hvv1 hn (by omega)
      have hbl1 : BldAt W1 B B L := hbl.out.later (fun j _ hj => ho1 j hj)
      have HKP := Lib.hid hkp
      have HNX := Lib.hid hnx
      have HO1 := Lib.hid ho1
      have HW := Lib.hid hW1
      have HN1 := Lib.hid hn1
      have HAK := Lib.hid hak1
      have HB1 := Lib.hid hbl1
      have hlt' : (k : Int) < ss.length := by omega
      clear ho hsp hlow hxx hpc hT hmk htk hL hnx hkp hak1 hkk1 hvv1 hn1 ho1 hW1 hbl hak hbl1
      go_wp2_with fail
      rw [HW.out]
      refine HKP.out.mono ?_
      rintro e w3 ⟨rfl, hw3⟩
      have hf3 : ∀ j : Nat, j ≠ pa → w3.heap[j]? = W1.heap[j]? := fun j hj => by rw [← hw3]; exact Below.heap_setCell _ _ _ _ (by simpa using hj)
      have ha3 : w3.heap[pa]? = some (.cells #[.int .i64 ((k : Int) + 1)] 3 (0, 0)) := by rw [← hw3]; exact set_of1 HAK.out
      have hz3 : w3.heap.size = W1.heap.size := by rw [← hw3]; simp
      have hb3 : Below pa w w3 := by rw [← hw3]; exact hbw1.setCell (p := ⟨pa, 0, none⟩) (Nat.le_refl _) _
      have hn3 := (hf3 wr.heap.size (by omega)).trans HN1.out
      have y0 : w3.cell? ⟨wr.heap.size, 0, none⟩ = some (.int .i64 sp.head) := by simp [World.cell?, hn3]
      have y2 : w3.cell? ⟨wr.heap.size, 2, none⟩ = some (.int .i64 sp.fin) := by simp [World.cell?, hn3]
      have hbl3 : BldAt w3 B B L := HB1.out.later (fun j h1 _ => hf3 j (by omega))
      have hold3 : ∀ j : Nat, j < B → j ≠ pa → w3.heap[j]? = w2.heap[j]? := fun j h1 h2 => (hf3 j h2).trans ((HO1.out j (by omega)).trans (hold.out j h1 h2))
      have HNX2 := Lib.hid HNX.out
      have HOLD := Lib.hid hold3
      have HA3 := Lib.hid ha3
      obtain ⟨q, hq⟩ : ∃ q, ks.getD k false = q := ⟨_, rfl⟩
      rw [hq] at HNX2 ⊢
      clear hn3 hf3 HKP HNX HB1 hold3 ha3 hw3 HN1 HO1 hold HW x0 x1 x2 hq HAK
      cases q with
      | false =>
        have hnx : Hid ((keptE ks 0 ((ss.map (pieceOf F)).take (k + 1))).flatten = L) := by show _ = _; have := HNX2.out; simpa using this
        clear rm HNX2
        go_wp2_with fail
        go_roundw
        case rel => exact ⟨k + 1, by omega, by go_num, by show BldAt _ _ _ _; rw [hnx.out]; exact hbl3, by omega, HA3.out, hb3, HOLD.out⟩
        case measure => simp [intOf]; omega
      | true =>
        have hnx : Hid ((keptE ks 0 ((ss.map (pieceOf F)).take (k + 1))).flatten = L ++ T) := by show _ = _; have := HNX2.out; simpa using this
        have hwr := write_any B B L T w3 hbl3 (by omega) (by omega)
        have HWR := Lib.hid hwr
        clear HNX2 hwr hbl3
        go_wp2_with fail
        refine HWR.out.mono ?_
        rintro e w4 ⟨rfl, hbl4, hb4, _⟩
        have HBL4 := Lib.hid hbl4
        have hz4 := hb4.size
        have HB4 := Lib.hid hb4
        clear HWR hbl4 hb4
        go_wp2
        go_roundw
        case rel => exact ⟨k + 1, by omega, by go_num, by show BldAt _ _ _ _; rw [hnx.out]; exact HBL4.out, by omega, by show _ = _; exact (HB4.out.block pa (by omega)).trans HA3.out, hb3.trans (HB4.out.mono (by omega)), fun j h1 h2 => (HB4.out.block j h1).trans (HOLD.out j h1 h2)⟩
        case measure => simp [intOf]; omega
    · obtain rfl : k = ss.length := by omega
      have hbl2 := hbl.out
      rw [List.take_of_length_le (by simp)] at hbl2
      have hst := string_any B B _ wr hbl2 (by omega)
      have HST := Lib.hid hst
      clear hbl hbl2 hst
      go_wp2_with fail
      refine HST.out.mono ?_
      rintro e w4 ⟨rfl, hb4⟩
      have HB4 := Lib.hid hb4
      clear HST hb4
      go_wp2
      go_ret2
      exact ⟨rfl, ⟨hbw.trans (HB4.out.mono (by omega)), fun j h1 h2 => (HB4.out.block j (by omega)).trans ((hold.out j (by omega) h2).trans (hb2.block j h1))⟩, (HB4.out.block pa (by omega)).trans hak.out⟩

end Go.Proofs.YtcjnpklmfcbofaaDoor
