/- LinesPlays: the document's reader (the model), its methods by their contracts. -/
import Derived.Test.YtglopeijohdobaaDoorL8
import Derived.BigQuiet
set_option linter.unusedVariables false
set_option linter.unusedSimpArgs false
namespace Go.Proofs.YtglopeijohdobaaDoor
open Go.RowKit

/-- the model lies at block g: all bytes that came (a slice), how far they were told, how many are waited for -/
def MdAt (w : World) (g : Nat) (va : Value) (at_ : Nat) (k : Int) : Prop := w.heap[g]? = some (.cells #[va, .int .i64 at_, .int .i64 k] 40 (0, 0))
theorem MdAt.cells {w : World} {g : Nat} {va : Value} {p : Nat} {k : Int} (h : MdAt w g va p k) : w.cell? ⟨g, 0, none⟩ = some va ∧ w.cell? ⟨g, 1, none⟩ = some (.int .i64 p) ∧ w.cell? ⟨g, 2, none⟩ = some (.int .i64 k) ∧ w.frozen? ⟨g, 0, none⟩ = false ∧ w.frozen? ⟨g, 1, none⟩ = false ∧ w.frozen? ⟨g, 2, none⟩ = false := by
  unfold MdAt at h
  refine ⟨?_, ?_, ?_, ?_, ?_, ?_⟩ <;> simp [World.cell?, World.frozen?, h]
theorem MdAt.lt {w : World} {g : Nat} {va : Value} {p : Nat} {k : Int} (h : MdAt w g va p k) : g < w.heap.size := (Array.getElem?_eq_some_iff.1 h).1
theorem MdAt.later {w w' : World} {g : Nat} {va : Value} {p : Nat} {k : Int} (h : MdAt w g va p k) (hb : Below w.heap.size w w') : MdAt w' g va p k := (hb.block g h.lt).trans h
theorem MdAt.upd {w w' : World} {b g : Nat} {va : Value} {p : Nat} {k : Int} (h : MdAt w g va p k) (hu : Upd b w w') (hb : g ≠ b) : MdAt w' g va p k := (hu.block g h.lt hb).trans h
theorem MdAt.set0 {w : World} {g : Nat} {va : Value} {p : Nat} {k : Int} (h : MdAt w g va p k) (v' : Value) : MdAt (w.setCell ⟨g, 0, none⟩ v') g v' p k := by
  unfold MdAt at *
  simp [World.setCell, Array.getElem?_modify, h]
theorem MdAt.set1 {w : World} {g : Nat} {va : Value} {p : Nat} {k : Int} (h : MdAt w g va p k) (q : Nat) : MdAt (w.setCell ⟨g, 1, none⟩ (.int .i64 q)) g va q k := by
  unfold MdAt at *
  simp [World.setCell, Array.getElem?_modify, h]
theorem MdAt.set2 {w : World} {g : Nat} {va : Value} {p : Nat} {k : Int} (h : MdAt w g va p k) (q : Int) : MdAt (w.setCell ⟨g, 2, none⟩ (.int .i64 q)) g va p q := by
  unfold MdAt at *
  simp [World.setCell, Array.getElem?_modify, h]
theorem MdAt.far {w : World} {g h : Nat} {va : Value} {p : Nat} {k : Int} (hk : MdAt w g va p k) (hg : g ≠ h) (i : Nat) (x : Value) : MdAt (w.setCell ⟨h, i, none⟩ x) g va p k :=
  (Below.heap_setCell _ _ _ _ (by simpa using hg)).trans hk

theorem OwnB.parts {w : World} {B : Nat} {v : Value} {l : List UInt8} (h : OwnB w B v l) : (v = .slice none 0 0 ∧ l = []) ∨ ∃ g cap, v = .slice (some ⟨g, 0, none⟩) l.length cap ∧ l.length ≤ cap ∧ B ≤ g ∧ g < w.heap.size ∧ ∀ i, i < l.length → w.cell? ⟨g, i, none⟩ = some (.int .u8 (l.getD i 0).toNat) := by
  have hlt := World.ownsRow.lt h
  have hb := h.bytes
  rcases h.2 with ⟨rfl, h0⟩ | ⟨g, cap, cur, rfl, h1, hg, hc, _, _, ht⟩
  · exact .inl ⟨rfl, List.eq_nil_of_length_eq_zero h0⟩
  · refine .inr ⟨g, cap, rfl, hc, h1, (hlt g rfl).2, fun i hi => ?_⟩
    rcases hb with ⟨h, _⟩ | ⟨sb, so, cap', e, hc'⟩
    · cases h
    · simp at e
      obtain ⟨⟨rfl, rfl⟩, rfl⟩ := e
      have := hc' i hi
      rwa [Nat.zero_add] at this
theorem OwnB.later {w w' : World} {B : Nat} {v : Value} {l : List UInt8} (h : OwnB w B v l) (hb : ∀ k, v.ownBlock = some k → w'.heap[k]? = w.heap[k]?) : OwnB w' B v l := by
  refine ⟨h.1, ?_⟩
  rcases h.2 with h0 | ⟨g, cap, cur, rfl, h1, h2, r⟩
  · exact .inl h0
  · exact .inr ⟨g, cap, cur, rfl, h1, (hb g rfl).trans h2, r⟩

/-- All[p:q] of the model's bytes -/
theorem own_slice (g n cap p q : Nat) (hpq : p ≤ q) (hq : q ≤ n) (hc : n ≤ cap) (hp : p < cap) (W : World) : (Instr.slice 22 (.slice (some ⟨g, 0, none⟩) n cap) (some (.int .i64 p)) (some (.int .i64 q)) none).run Tryd.prog W = .ok (.slice (some ⟨g, p, none⟩) (q - p) (cap - p)) W := by
  rw [run_slice_lh W 22 (some ⟨g, 0, none⟩) n cap elem_bytes .i64 .i64 p q (by omega) (by omega) (by omega)]
  have e1 : Tryd.prog.elem 22 = 5 := by kernel_rfl
  rw [e1, Tryd.sizeOf5]
  have hne : ¬ cap = p := by omega
  simp [Result.andThen, sliced, hne, add_pl]
theorem at_cells {w : World} {g : Nat} {all : List UInt8} (hc : ∀ i, i < all.length → w.cell? ⟨g, i, none⟩ = some (.int .u8 (all.getD i 0).toNat)) {p n : Nat} (hn : p + n ≤ all.length) (c : Nat) : BytesAt w (.slice (some ⟨g, p, none⟩) n c) ((all.drop p).take n) := by
  have hl : ((all.drop p).take n).length = n := by simp; omega
  refine .inr ⟨g, p, c, by rw [hl], fun i hi => ?_⟩
  rw [hl] at hi
  rw [hc (p + i) (by omega)]
  congr 3
  simp [List.getD, List.getElem?_take, hi, List.getElem?_drop]

set_option maxRecDepth 100000 in
theorem refLine_waits (w : World) (g : Nat) (va : Value) (p : Nat) (k : Int) (hM : MdAt w g va p k) (h0 : 0 < k) :
    Calls Tryd.prog 14 #[.pointer (some ⟨g, 0, none⟩)] w fun e w' => e = .returned (.tuple #[.agg #[.string (bs []), .bool false], .bool false]) ∧ Below w.heap.size w w' := by
  obtain ⟨c0, c1, c2, f0, f1, f2⟩ := hM.cells
  have a2 := fun o => cell_alloc c2 o
  clear hM
  go_enter Tryd.func14, Tryd.ntmps14
  go_wp2
  refine bodyPost_ret (v := .tuple #[.agg #[.string (bs []), .bool false], .bool false]) (by simp [results, Tryd.results14, go_sem]) rfl ⟨rfl, (Below.refl _ _).alloc (Nat.le_refl _) _⟩

set_option maxRecDepth 100000 in
set_option maxHeartbeats 1000000 in
theorem refLine_no (w : World) (g B : Nat) (va : Value) (all : List UInt8) (p : Nat) (hM : MdAt w g va p 0) (hv : OwnB w B va all) (hp : p ≤ all.length) (hl : all.length ≤ 100000) (hc : cutNl (all.drop p) = none) :
    Calls Tryd.prog 14 #[.pointer (some ⟨g, 0, none⟩)] w fun e w' => e = .returned (.tuple #[.agg #[.string (bs []), .bool false], .bool false]) ∧ Below w.heap.size w w' := by
  have hne : ∀ i, p ≤ i → ∀ d, all[i]? = some d → ((d.toNat : Int) != 10) = true := by
    intro i hi d hd
    have h1 := cutNl_none hc d (by
      have : (all.drop p)[i - p]? = some d := by rw [List.getElem?_drop, show p + (i - p) = i by omega]; exact hd
      exact List.mem_of_getElem? this)
    rw [bne_iff_ne]
    intro h
    exact h1 (by apply UInt8.toNat_inj.1; show d.toNat = 10; omega)
  have HNE := Lib.hid hne
  obtain ⟨c0, c1, c2, f0, f1, f2⟩ := hM.cells
  have a0 := fun o => cell_alloc c0 o
  have a1 := fun o => cell_alloc c1 o
  have a2 := fun o => cell_alloc c2 o
  clear hM hne hc
  go_enter Tryd.func14, Tryd.ntmps14
  rcases hv.parts with ⟨rfl, rfl⟩ | ⟨gb, cap, rfl, hcap, hBg, hgl, hcells⟩
  · simp at hp
    subst hp
    go_wp2
    refine wp_loop_rounds 1 ?_
    rw [rounds_succ]
    go_wp2
    refine bodyPost_ret (v := .tuple #[.agg #[.string (bs []), .bool false], .bool false]) (by simp [results, Tryd.results14, go_sem]) rfl ⟨rfl, (Below.refl _ _).alloc (Nat.le_refl _) _⟩
  · have HCE := Lib.hid hcells
    clear hcells
    go_wp2
    obtain ⟨wa, hwa⟩ : ∃ wa, w.alloc (.cells #[.string ⟨#[]⟩, .bool false] 30) = wa := ⟨_, rfl⟩
    have b0 : Below w.heap.size w wa := by rw [← hwa]; exact (Below.refl _ _).alloc (Nat.le_refl _) _
    have hr0 : wa.heap[w.heap.size]? = some (.cells #[.string ⟨#[]⟩, .bool false] 30 (0, 0)) := by rw [← hwa]; exact heap_new w _
    have k0 := (b0.cell (p := ⟨g, 0, none⟩) (cell_lt c0)).trans c0
    have k1 := (b0.cell (p := ⟨g, 1, none⟩) (cell_lt c1)).trans c1
    have k2 := (b0.cell (p := ⟨g, 2, none⟩) (cell_lt c2)).trans c2
    have q0 : wa.cell? ⟨w.heap.size, 0, none⟩ = some (.string ⟨#[]⟩) := by simp [World.cell?, hr0]
    have q1 : wa.cell? ⟨w.heap.size, 1, none⟩ = some (.bool false) := by simp [World.cell?, hr0]
    have g0 : wa.frozen? ⟨w.heap.size, 0, none⟩ = false := by simp [World.frozen?, hr0]
    have g1 : wa.frozen? ⟨w.heap.size, 1, none⟩ = false := by simp [World.frozen?, hr0]
    rw [hwa]
    clear hwa a0 a1 a2 c0 c1 c2 f0 f1 f2
    go_loopw [4] (fun v4 wr => ∃ e : Nat, p ≤ e ∧ e ≤ all.length ∧ v4 = .int .i64 e ∧ wr = wa) (fun v4 _ => all.length - (intOf v4).toNat)
    case atStart => exact ⟨p, Nat.le_refl _, hp, rfl, rfl⟩
    case round =>
      obtain ⟨e, he1, he2, rfl, rfl⟩ := hrel
      by_cases hlt : e < all.length
      · have hlt' : (e : Int) < all.length := by omega
        obtain ⟨d, hd⟩ : ∃ d, all[e]? = some d := ⟨_, List.getElem?_eq_getElem hlt⟩
        have hcell := (b0.cell (p := ⟨gb, e, none⟩) hgl).trans (HCE.out e hlt)
        have hgd : all.getD e 0 = d := by simp [List.getD, hd]
        rw [hgd] at hcell
        have hn := HNE.out e he1 d hd
        clear hd hgd
        go_wp2
        go_roundw
        case rel => exact ⟨e + 1, by omega, by omega, by go_num, by trivial⟩
        case measure => simp [intOf]; omega
      · obtain rfl : e = all.length := by omega
        go_wp2
        refine bodyPost_ret (v := .tuple #[.agg #[.string (bs []), .bool false], .bool false]) (by simp [results, Tryd.results14, go_sem, q0, q1, g0, g1]) rfl ⟨rfl, ?_⟩
        exact (b0.setCell (p := ⟨w.heap.size, 0, none⟩) (Nat.le_refl _) _).setCell (p := ⟨w.heap.size, 1, none⟩) (Nat.le_refl _) _

theorem trim_last (t : List UInt8) (d : UInt8) : Lib.trimSuffix (t ++ [d]) [13] = if d = 13 then t else t ++ [d] := by
  unfold Lib.trimSuffix Lib.hasSuffix
  by_cases h : d = 13
  · rw [if_pos h, h, if_pos (by rw [List.isSuffixOf_iff_suffix]; exact ⟨t, rfl⟩)]
    simp
  · rw [if_neg h, if_neg]
    rw [List.isSuffixOf_iff_suffix]
    rintro ⟨x, hx⟩
    have := congrArg List.getLast? hx
    simp at this
    exact h this.symm
theorem trim_nil : Lib.trimSuffix [] [13] = [] := by decide

set_option maxRecDepth 100000 in
set_option maxHeartbeats 2000000 in
theorem refLine_yes (w : World) (g B : Nat) (va : Value) (all s r : List UInt8) (p : Nat) (hM : MdAt w g va p 0) (hv : OwnB w B va all) (hgB : g < B) (hp : p ≤ all.length) (hl : all.length ≤ 100000) (hc : cutNl (all.drop p) = some (s, r)) :
    Calls Tryd.prog 14 #[.pointer (some ⟨g, 0, none⟩)] w fun e w' => e = .returned (.tuple #[.agg #[.string (bs (lineText s)), .bool (lineLong s)], .bool true]) ∧ MdAt w' g va (p + s.length + 1) 0 ∧ Upd g w w' := by
  obtain ⟨he, hn10⟩ := cutNl_some hc
  have hlen : all.length = p + s.length + 1 + r.length := by
    have := congrArg List.length he
    simp at this
    omega
  obtain ⟨E, hE⟩ : ∃ E, p + s.length = E := ⟨_, rfl⟩
  have hat : ∀ i, i < s.length → all[p + i]? = s[i]? := by
    intro i hi
    rw [← List.getElem?_drop, he, List.getElem?_append_left hi]
  have hEd : all[E]? = some 10 := by
    rw [← hE, ← List.getElem?_drop, he, List.getElem?_append_right (Nat.le_refl _), Nat.sub_self]
    rfl
  have hseg : (all.drop p).take (E - p) = s := by rw [he, show E - p = s.length by omega]; simp
  have hne : ∀ i, p ≤ i → i < E → ∀ d, all[i]? = some d → ((d.toNat : Int) != 10) = true := by
    intro i hi h2 d hd
    have h3 := hat (i - p) (by omega)
    rw [show p + (i - p) = i by omega, hd] at h3
    have h1 := hn10 d (List.mem_of_getElem? h3.symm)
    rw [bne_iff_ne]
    intro h
    exact h1 (by apply UInt8.toNat_inj.1; show d.toNat = 10; omega)
  have HNE := Lib.hid hne
  have HED := Lib.hid hEd
  have HSEG := Lib.hid hseg
  obtain ⟨c0, c1, c2, f0, f1, f2⟩ := hM.cells
  have a0 := fun o => cell_alloc c0 o
  have a1 := fun o => cell_alloc c1 o
  have a2 := fun o => cell_alloc c2 o
  have hgw := hM.lt
  have hle : p + s.length + 1 ≤ all.length := by omega
  clear hne hc he hn10 hat hEd hseg hlen
  go_enter Tryd.func14, Tryd.ntmps14
  rcases hv.parts with ⟨rfl, rfl⟩ | ⟨gb, cap, rfl, hcap, hBg, hgl, hcells⟩
  · exact absurd hle (by rw [List.length_nil]; omega)
  · have HCE := Lib.hid hcells
    clear hcells
    go_wp2
    obtain ⟨wa, hwa⟩ : ∃ wa, w.alloc (.cells #[.string ⟨#[]⟩, .bool false] 30) = wa := ⟨_, rfl⟩
    have b0 : Below w.heap.size w wa := by rw [← hwa]; exact (Below.refl _ _).alloc (Nat.le_refl _) _
    have hr0 : wa.heap[w.heap.size]? = some (.cells #[.string ⟨#[]⟩, .bool false] 30 (0, 0)) := by rw [← hwa]; exact heap_new w _
    have hMa : MdAt wa g (.slice (some ⟨gb, 0, none⟩) all.length cap) p 0 := hM.later b0
    have zwa : wa.heap.size = w.heap.size + 1 := by rw [← hwa]; simp
    rw [hwa]
    clear hwa a0 a1 a2 c0 c1 c2 f0 f1 f2 hM
    obtain ⟨k0, k1, k2, f0, f1, f2⟩ := hMa.cells
    go_loopw [4] (fun v4 wr => ∃ e : Nat, p ≤ e ∧ e ≤ E ∧ v4 = .int .i64 e ∧ wr = wa) (fun v4 _ => all.length - (intOf v4).toNat)
    case atStart => exact ⟨p, Nat.le_refl _, by omega, rfl, rfl⟩
    case round =>
      obtain ⟨e, he1, he2, rfl, rfl⟩ := hrel
      have hlt' : (e : Int) < all.length := by omega
      obtain ⟨d, hd⟩ : ∃ d, all[e]? = some d := ⟨_, List.getElem?_eq_getElem (by omega)⟩
      have hcell := (b0.cell (p := ⟨gb, e, none⟩) hgl).trans (HCE.out e (by omega))
      have hgd : all.getD e 0 = d := by simp [List.getD, hd]
      rw [hgd] at hcell
      by_cases hlt : e < E
      · have hn := HNE.out e he1 hlt d hd
        clear hd hgd
        go_wp2
        go_roundw
        case rel => exact ⟨e + 1, by omega, by omega, by go_num, by trivial⟩
        case measure => simp [intOf]; omega
      · obtain rfl : e = E := by omega
        obtain rfl : d = 10 := Option.some.inj (hd.symm.trans HED.out)
        have hn : (((10 : UInt8).toNat : Int) != 10) = false := by decide
        have hsl := own_slice gb all.length cap p e he1 (by omega) hcap (by omega)
        have hbytes := fun (W : World) (h : ∀ i, i < all.length → W.cell? ⟨gb, i, none⟩ = some (.int .u8 (all.getD i 0).toNat)) (n c : Nat) (hn : p + n ≤ all.length) => at_cells h hn c
        have HBY := Lib.hid hbytes
        have q0 : wr.cell? ⟨w.heap.size, 0, none⟩ = some (.string ⟨#[]⟩) := by simp [World.cell?, hr0]
        have q1 : wr.cell? ⟨w.heap.size, 1, none⟩ = some (.bool false) := by simp [World.cell?, hr0]
        have g0 : wr.frozen? ⟨w.heap.size, 0, none⟩ = false := by simp [World.frozen?, hr0]
        have g1 : wr.frozen? ⟨w.heap.size, 1, none⟩ = false := by simp [World.frozen?, hr0]
        rw [show e - p = s.length by omega] at hsl
        obtain ⟨C2, hC2⟩ : ∃ c, cap - p = c := ⟨_, rfl⟩
        rw [hC2] at hsl
        have hC2b : s.length ≤ C2 := by omega
        clear hd hgd hbytes hC2
        go_wp2
        go_quiet (fail)
        go_upto_region 9 with fail
        rw [show ((e : Int) + 1) = ((e + 1 : Nat) : Int) by omega]
        try rw [show e - p = s.length by omega]
        have hM2 : MdAt ((wr.drewN nq).setCell ⟨g, 1, none⟩ (.int .i64 ((e + 1 : Nat) : Int))) g (.slice (some ⟨gb, 0, none⟩) all.length cap) (e + 1) 0 := MdAt.set1 (w := wr.drewN nq) hMa (e + 1)
        have hU2 : Upd g w ((wr.drewN nq).setCell ⟨g, 1, none⟩ (.int .i64 ((e + 1 : Nat) : Int))) := ((Upd.of_below b0).drewN nq).setCell 1 _
        have hr2 : ((wr.drewN nq).setCell ⟨g, 1, none⟩ (.int .i64 ((e + 1 : Nat) : Int))).heap[w.heap.size]? = some (.cells #[.string ⟨#[]⟩, .bool false] 30 (0, 0)) := (Below.heap_setCell _ _ _ _ (by simp; omega)).trans hr0
        have hc2 : ∀ i, i < all.length → ((wr.drewN nq).setCell ⟨g, 1, none⟩ (.int .i64 ((e + 1 : Nat) : Int))).cell? ⟨gb, i, none⟩ = some (.int .u8 (all.getD i 0).toNat) := fun i hi => by
          have h1 := (b0.cell (p := ⟨gb, i, none⟩) hgl).trans (HCE.out i hi)
          exact (World.cell?_of_block (w := wr) (Below.heap_setCell (wr.drewN nq) ⟨g, 1, none⟩ _ gb (by simp; omega))).trans h1
        generalize (wr.drewN nq).setCell ⟨g, 1, none⟩ (.int .i64 ((e + 1 : Nat) : Int)) = W2 at hM2 hU2 hr2 hc2 ⊢
        have HC2 := Lib.hid hc2
        have q0 : W2.cell? ⟨w.heap.size, 0, none⟩ = some (.string ⟨#[]⟩) := by simp [World.cell?, hr2]
        have q1 : W2.cell? ⟨w.heap.size, 1, none⟩ = some (.bool false) := by simp [World.cell?, hr2]
        have g0 : W2.frozen? ⟨w.heap.size, 0, none⟩ = false := by simp [World.frozen?, hr2]
        have g1 : W2.frozen? ⟨w.heap.size, 1, none⟩ = false := by simp [World.frozen?, hr2]
        have hsE : (all.drop p).take s.length = s := by rw [show s.length = e - p by omega]; exact HSEG.out
        have HSE := Lib.hid hsE
        have hpE : p + s.length + 1 = e + 1 := by omega
        have HPE := Lib.hid hpE
        clear hsl hcell hn hc2 b0 k0 k1 k2 f0 f1 f2 hMa hr0 HSEG HCE HNE hsE hpE
        have fin : ∀ (x y : Value), MdAt ((W2.setCell ⟨w.heap.size, 0, none⟩ x).setCell ⟨w.heap.size, 1, none⟩ y) g (.slice (some ⟨gb, 0, none⟩) all.length cap) (p + s.length + 1) 0 ∧ Upd g w ((W2.setCell ⟨w.heap.size, 0, none⟩ x).setCell ⟨w.heap.size, 1, none⟩ y) := fun x y => by
          rw [HPE.out]
          exact ⟨(hM2.far (by omega) 0 x).far (by omega) 1 y, (hU2.setNew (Nat.le_refl _) 0 x).setNew (Nat.le_refl _) 1 y⟩
        have FIN := Lib.hid fin
        clear fin
        by_cases hlong : s.length > 1000
        · have hlong' : (1000 : Int) < s.length := by omega
          go_wp2
          refine bodyPost_ret (v := .tuple #[.agg #[.string (bs (lineText s)), .bool (lineLong s)], .bool true]) (by simp [results, Tryd.results14, go_sem, q0, q1, g0, g1, lineText, lineLong, hlong]) rfl ⟨rfl, FIN.out _ _⟩
        · have hlong' : ¬ (1000 : Int) < s.length := by omega
          have hcases : s = [] ∨ ∃ t d, s = t ++ [d] := by
            rcases List.eq_nil_or_concat s with h | ⟨t, d, h⟩
            · exact .inl h
            · exact .inr ⟨t, d, by simpa using h⟩
          rcases hcases with rfl | ⟨t, d, rfl⟩
          · have hcv := fun c => convert_bytes (HBY.out W2 HC2.out 0 c (by omega))
            simp only [List.take_zero] at hcv
            simp only [List.length_nil] at hlong' ⊢
            go_wp2
            refine bodyPost_ret (v := .tuple #[.agg #[.string (bs (lineText [])), .bool (lineLong [])], .bool true]) (by simp [results, Tryd.results14, go_sem, q0, q1, g0, g1, lineText, lineLong, trim_nil]) rfl ⟨rfl, FIN.out _ _⟩
          · have hseg := HSE.out
            have hlt2 : (all.drop p).take t.length = t := by
              have := congrArg (List.take t.length) hseg
              rw [List.take_take, List.length_append, Nat.min_eq_left (by omega)] at this
              rw [this]; simp
            have hcv1 := fun c => convert_bytes (HBY.out W2 HC2.out (t.length + 1) c (by simp at hle; omega))
            have hcv2 := fun c => convert_bytes (HBY.out W2 HC2.out t.length c (by simp at hle; omega))
            have hseg1 : (all.drop p).take (t.length + 1) = t ++ [d] := by rw [show t.length + 1 = (t ++ [d]).length by simp]; exact hseg
            rw [hseg1] at hcv1
            rw [hlt2] at hcv2
            clear hseg1
            have hd : W2.cell? ⟨gb, p + t.length, none⟩ = some (.int .u8 d.toNat) := by
              rw [HC2.out (p + t.length) (by simp at hle; omega)]
              have : all[p + t.length]? = some d := by
                have h2 := congrArg (fun l => l[t.length]?) hseg
                simpa [List.getElem?_take, List.getElem?_drop] using h2
              simp [List.getD, this]
            have hl1 : (t ++ [d]).length = t.length + 1 := by simp
            have fin2 := FIN.out
            rw [hl1] at fin2 hC2b ⊢
            have FIN2 := Lib.hid fin2
            clear fin2 FIN
            have hl2 : ¬ (1000 : Int) < ((t.length + 1 : Nat) : Int) := by rw [hl1] at hlong; omega
            have hl3 : ¬ (1000 : Int) < (t.length : Int) + 1 := by omega
            clear hlong'
            rcases hb : ((d.toNat : Int) == 13) with _ | _
            · have hd13 : ¬ d = 13 := by
                rintro rfl
                exact absurd hb (by decide)
              clear hseg hlt2 hcv2
              go_wp2
              refine bodyPost_ret (v := .tuple #[.agg #[.string (bs (lineText (t ++ [d]))), .bool (lineLong (t ++ [d]))], .bool true]) (by simp [results, Tryd.results14, go_sem, q0, q1, g0, g1, lineText, lineLong, trim_last, hd13]; omega) rfl ⟨rfl, FIN2.out _ _⟩
            · have hd13 : d = 13 := by
                apply UInt8.toNat_inj.1
                have := eq_of_beq hb
                show d.toNat = 13
                omega
              clear hseg hlt2 hcv1
              subst hd13
              go_wp2
              refine bodyPost_ret (v := .tuple #[.agg #[.string (bs (lineText (t ++ [13]))), .bool (lineLong (t ++ [13]))], .bool true]) (by simp [results, Tryd.results14, go_sem, q0, q1, g0, g1, lineText, lineLong, trim_last]; omega) rfl ⟨rfl, FIN2.out _ _⟩

end Go.Proofs.YtglopeijohdobaaDoor
