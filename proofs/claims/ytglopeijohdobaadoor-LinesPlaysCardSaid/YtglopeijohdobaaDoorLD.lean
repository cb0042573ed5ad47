/- LinesPlays: the walk. -/
import Derived.Test.YtglopeijohdobaaDoorLC
import Derived.Deep.AppendLies
import Derived.Deep.RegionLaw
import Derived.Deep.CutBlock
import Derived.Deep.DeepCutAuto
set_option linter.unusedVariables false
set_option linter.unusedSimpArgs false
namespace Go.Proofs.YtglopeijohdobaaDoor
open Go.RowKit

/-- one call of the script -/
structure Opn where
  kind : Int
  n : Int
  v : Value
  l : List UInt8
/-- a script that came in -/
def ArgO (w : World) (v : Value) (ops : List Opn) : Prop := ∃ a c, v = .slice a ops.length c ∧ (ops ≠ [] → ∃ b o, a = some ⟨b, o, none⟩ ∧ b < w.heap.size ∧ ∀ k op, ops[k]? = some op →
  w.cell? ⟨b, o + k * 3, none⟩ = some (.int .i64 op.kind) ∧ w.cell? ⟨b, o + k * 3 + 1, none⟩ = some (.int .i64 op.n) ∧ w.cell? ⟨b, o + k * 3 + 2, none⟩ = some op.v ∧ ArgBN w op.v op.l)

/-- where the players stand: the reader at gx, the model at gm; all bytes that came, how far they were told, how many are waited for -/
structure Stand (w wr : World) (gx gm : Nat) (va : Value) (all : List UInt8) (p k : Nat) : Prop where
  rd : RdAt wr gx (all.drop p) k
  md : MdAt wr gm va p k
  own : OwnB wr (gm + 1) va all
  low : Below w.heap.size w wr
  lt : gx < gm ∧ gm < wr.heap.size ∧ w.heap.size ≤ gx
  le : p ≤ all.length ∧ all.length ≤ 20000 ∧ k ≤ 100000
theorem Stand.form {w wr : World} {gx gm : Nat} {va : Value} {all : List UInt8} {p k : Nat} (h : Stand w wr gx gm va all p k) : ∃ a c, va = .slice a all.length c := by
  obtain ⟨a, n, c, e, hn⟩ := h.own.form
  exact ⟨a, c, by rw [e, hn.out]⟩
theorem Stand.later {w wr w' : World} {gx gm : Nat} {va : Value} {all : List UInt8} {p k : Nat} (h : Stand w wr gx gm va all p k) (hb : Below wr.heap.size wr w') : Stand w w' gx gm va all p k :=
  ⟨h.rd.later hb, h.md.later hb, h.own.later fun j hj => hb.block j (World.ownsRow.lt h.own j hj).2, h.low.trans (hb.mono h.low.size), ⟨h.lt.1, Nat.lt_of_lt_of_le h.lt.2.1 hb.size, h.lt.2.2⟩, h.le⟩
theorem Stand.new {w wr w' : World} {gx gm g : Nat} {va : Value} {all : List UInt8} {p k : Nat} (h : Stand w wr gx gm va all p k) (hu : Upd g wr w') (h1 : g ≠ gx) (h2 : g ≠ gm) (h3 : va.ownBlock ≠ some g) (h4 : w.heap.size ≤ g) : Stand w w' gx gm va all p k :=
  ⟨h.rd.upd hu (fun e => h1 e.symm), h.md.upd hu (fun e => h2 e.symm), h.own.later fun j hj => hu.block j (World.ownsRow.lt h.own j hj).2 (fun e => h3 (by rw [hj, e])), h.low.trans (hu.below h4 h.low.size), ⟨h.lt.1, Nat.lt_of_lt_of_le h.lt.2.1 hu.size, h.lt.2.2⟩, h.le⟩

theorem Stand.told {w wr w1 w' : World} {gx gm : Nat} {va : Value} {all : List UInt8} {p k q k' : Nat} (h : Stand w wr gx gm va all p k) (h1 : Upd gx wr w1) (h2 : Upd gm w1 w') (hr : RdAt w1 gx (all.drop q) k') (hm : MdAt w' gm va q k') (hq : q ≤ all.length) (hk : k' ≤ 100000) : Stand w w' gx gm va all q k' := by
  have hs1 := h1.size
  have hs2 := h2.size
  have hlt := h.lt
  have hls := h.low.size
  refine ⟨hr.upd h2 (by omega), hm, h.own.later fun j hj => ?_, (h.low.trans (h1.below hlt.2.2 hls)).trans (h2.below (by omega) (by omega)), ⟨hlt.1, by omega, hlt.2.2⟩, ⟨hq, h.le.2.1, hk⟩⟩
  have hb := World.ownsRow.lt h.own j hj
  exact (h2.block j (by omega) (by omega)).trans (h1.block j hb.2 (by omega))

theorem Stand.told2 {w wr w1 w' : World} {gx gm : Nat} {va : Value} {all : List UInt8} {p k q k' : Nat} (h : Stand w wr gx gm va all p k) (h1 : Upd gm wr w1) (h2 : Upd gx w1 w') (hm : MdAt w1 gm va q k') (hr : RdAt w' gx (all.drop q) k') (hq : q ≤ all.length) (hk : k' ≤ 100000) : Stand w w' gx gm va all q k' := by
  have hs1 := h1.size
  have hs2 := h2.size
  have hlt := h.lt
  have hls := h.low.size
  refine ⟨hr, hm.upd h2 (by omega), h.own.later fun j hj => ?_, (h.low.trans (h1.below (by omega) hls)).trans (h2.below hlt.2.2 (by omega)), ⟨hlt.1, by omega, hlt.2.2⟩, ⟨hq, h.le.2.1, hk⟩⟩
  have hb := World.ownsRow.lt h.own j hj
  exact (h2.block j (by omega) (by omega)).trans (h1.block j hb.2 (by omega))

theorem cellsB_set (l : List UInt8) (k : Nat) (x : UInt8) : (cellsB l).set k (.int .u8 ((x.toNat : Nat) : Int)) = cellsB (l.set k x) := by
  unfold cellsB; rw [List.map_set]
theorem OwnB.set {w : World} {B g n cap k : Nat} {l : List UInt8} (h : OwnB w B (.slice (some ⟨g, 0, none⟩) n cap) l) (hk : k < l.length) (x : UInt8) :
    w.cell? ⟨g, k, none⟩ = some (.int .u8 (l.getD k 0).toNat) ∧ w.frozen? ⟨g, k, none⟩ = false ∧ OwnB (w.setCell ⟨g, k, none⟩ (.int .u8 ((x.toNat : Nat) : Int))) B (.slice (some ⟨g, 0, none⟩) n cap) (l.set k x) := by
  obtain rfl : n = l.length := by
    rcases h.2 with ⟨h', _⟩ | ⟨g', cap', cur, h', _⟩
    · simp at h'
    · simp at h'; exact h'.2.1
  have hst := World.ownsRow.stored h k (.int .u8 ((x.toNat : Nat) : Int))
  have hfr := World.ownsRow.frozenAt h k
  refine ⟨?_, hfr, ?_⟩
  · rcases h.parts with ⟨h', _⟩ | ⟨g', cap', h', _, _, _, h3⟩
    · simp at h'
    · simp at h'
      obtain ⟨rfl, rfl⟩ := h'
      exact h3 k hk
  · unfold OwnB
    rw [← cellsB_set, List.length_set]
    exact hst.1

set_option maxRecDepth 100000 in
set_option maxHeartbeats 4000000 in
theorem linesPlays_list (v : Value) (ops : List Opn) (a : Nat → Addr) (w : World) (hv : ArgO w v ops) (hn : ∀ op ∈ ops, op.l.length ≤ 140737488351232) (hE : Errs w a) :
    Calls Tryd.prog 5 #[v] w fun e w' => e = .returned (.bool true) ∧ Below w.heap.size w w' := by
  obtain ⟨i0, hi0, hz0, hz1, hz2⟩ := info_parts info_u8
  have HE := Lib.hid hE
  have HN := Lib.hid hn
  have hal := alive_any w
  obtain ⟨sa, sc, rfl, hops⟩ := hv
  have HO := Lib.hid hops
  clear hE hn hops
  go_enter Tryd.func5, Tryd.ntmps5
  go_wp2_with fail
  refine hal.mono ?_
  clear hal
  rintro e w1 ⟨rfl, hb1⟩
  go_wp2_with fail
  refine (new_any w1).mono ?_
  rintro e w2 ⟨rfl, hw2⟩
  have hk2 : RdAt w2 w1.heap.size [] 0 := by rw [← hw2]; exact heap_new _ _
  have hb2 : Below w1.heap.size w1 w2 := by rw [← hw2]; exact (Below.refl _ _).alloc (Nat.le_refl _) _
  have hz2' : w2.heap.size = w1.heap.size + 1 := by rw [← hw2]; simp
  have hB2 : Below w.heap.size w w2 := hb1.trans (hb2.mono hb1.size)
  clear hw2 hb2
  have hzz := hb1.size
  obtain ⟨gx, hgx⟩ : ∃ g, w1.heap.size = g := ⟨_, rfl⟩
  obtain ⟨gm, hgm⟩ : ∃ g, w2.heap.size = g := ⟨_, rfl⟩
  rw [hgx] at hk2 hz2' hzz ⊢
  have HZ2 := Lib.hid hz2'
  have HGM := Lib.hid hgm
  clear hz2' hgm
  go_wp2
  obtain ⟨w3, hw3⟩ : ∃ w3, w2.alloc (.cells #[.slice none 0 0, .int .i64 0, .int .i64 0] 40) = w3 := ⟨_, rfl⟩
  have hst : Stand w w3 gx gm (.slice none 0 0) [] 0 0 := by
    rw [← hw3]
    have hb3 : Below w2.heap.size w2 (w2.alloc (.cells #[.slice none 0 0, .int .i64 0, .int .i64 0] 40)) := (Below.refl _ _).alloc (Nat.le_refl _) _
    have hgm := HGM.out
    have hz2' := HZ2.out
    exact ⟨hk2.later hb3, by rw [← hgm]; exact heap_new _ _, World.ownsRow_nil _ _ _ _, hB2.trans (hb3.mono hB2.size), ⟨by omega, by simp; omega, by omega⟩, ⟨Nat.le_refl _, by simp, by decide⟩⟩
  rw [hw3, HGM.out]
  clear hw3 hk2 hB2 hb1 HZ2 HGM hgx hzz
  go_loopw [5, 6, 7, 8, 9, 10, 11, 12, 13, 14, 15, 16, 17, 18, 26] (fun v5 _ _ _ _ _ _ _ _ _ _ _ _ _ v26 wr => ∃ (k s : Nat) (va : Value) (all : List UInt8) (p kw : Nat), k ≤ ops.length ∧ v26 = .int .i64 k ∧ v5 = .int .i64 s ∧ Stand w wr gx gm va all p kw ∧ all.length ≤ s ∧ s ≤ 20000) (fun _ _ _ _ _ _ _ _ _ _ _ _ _ _ v26 _ => ops.length - (intOf v26).toNat)
  case atStart => exact ⟨0, 0, _, [], 0, 0, Nat.zero_le _, rfl, rfl, hst, by simp, by decide⟩
  case round =>
    clear hst
    obtain ⟨k, s, va, all, p, kw, hk, rfl, rfl, hst, has, hs⟩ := hrel
    by_cases hlt : k < ops.length
    · obtain ⟨op, hop⟩ : ∃ op, ops[k]? = some op := ⟨_, List.getElem?_eq_getElem hlt⟩
      obtain ⟨b, o, rfl, hbl, hcells⟩ := HO.out (by rintro rfl; simp at hlt)
      obtain ⟨e0, e1, e2, hab⟩ := hcells k op hop
      have k0 := (hst.low.cell (p := ⟨b, o + k * 3, none⟩) hbl).trans e0
      have k1 := (hst.low.cell (p := ⟨b, o + k * 3 + 1, none⟩) hbl).trans e1
      have k2 := (hst.low.cell (p := ⟨b, o + k * 3 + 2, none⟩) hbl).trans e2
      have hAB := hab.below hst.low
      have hol := HN.out op (List.mem_of_getElem? hop)
      obtain ⟨kind, n, bv, bl⟩ := op
      simp only at k0 k1 k2 hAB hol hab
      have HAB0 := Lib.hid hab
      obtain ⟨ba, bc, rfl, hbc, _⟩ := hAB.arg
      have hlt' : (k : Int) < ops.length := by omega
      have HK1 : Hid (k + 1 ≤ ops.length) := hlt
      clear hop hcells e0 e1 e2 hab
      have HST := Lib.hid hst
      have HAB := Lib.hid hAB
      have hlow := hst.low.size
      clear hst hAB
      by_cases q1 : 200 < k
      · have q1' : (200 : Int) < k := by omega
        go_wp2
        go_ret
        exact ⟨rfl, HST.out.low.alloc hlow _⟩
      · have q1' : ¬ (200 : Int) < k := by omega
        by_cases q2 : 20000 < s + bl.length
        · have q2' : (20000 : Int) < (s : Int) + bl.length := by omega
          go_wp2
          go_ret
          exact ⟨rfl, HST.out.low.alloc hlow _⟩
        · have q2' : ¬ (20000 : Int) < (s : Int) + bl.length := by omega
          have q3' : ¬ (s : Int) + bl.length < 0 := by omega
          have hk200 : (k : Int) ≤ 200 := by omega
          have HQ2 : Hid (s + bl.length ≤ 20000) := by show _ ≤ _; omega
          go_upto_block 2 with fail
          obtain ⟨wa, hwa⟩ : ∃ wa, wr.alloc (.cells #[.int .i64 kind, .int .i64 n, .slice ba bl.length bc] 42) = wa := ⟨_, rfl⟩
          obtain ⟨go_, hgo⟩ : ∃ g, wr.heap.size = g := ⟨_, rfl⟩
          have ba0 : Below wr.heap.size wr wa := by rw [← hwa]; exact (Below.refl _ _).alloc (Nat.le_refl _) _
          have hrow : wa.heap[go_]? = some (.cells #[.int .i64 kind, .int .i64 n, .slice ba bl.length bc] 42 (0, 0)) := by rw [← hwa, ← hgo]; exact heap_new wr _
          have hsa := HST.out.later ba0
          have hba := HAB.out.below ba0
          have HSA := Lib.hid hsa
          have HBA := Lib.hid hba
          have hgl : go_ < wa.heap.size := (Array.getElem?_eq_some_iff.1 hrow).1
          have hgg : gm < go_ := by rw [← hgo]; exact HST.out.lt.2.1
          have hvgo : ∀ i, va.ownBlock = some i → i < go_ := fun i e => by rw [← hgo]; exact (World.ownsRow.lt HST.out.own i e).2
          have HVGO := Lib.hid hvgo
          clear hvgo
          rw [hwa, hgo]
          clear hwa hlow k0 k1 k2 hsa hba ba0 HST HAB hgo q1 q1' q2'
          have o0 : wa.cell? ⟨go_, 0, none⟩ = some (.int .i64 kind) := by simp [World.cell?, hrow]
          go_cut [8, 9, 10, 11, 12, 13, 14, 15, 16, 17, 18] (fun v8 _ _ _ _ _ _ _ _ _ _ wx => v8 = .bool true ∧ ∃ (va' : Value) (all' : List UInt8) (p' kw' : Nat), Stand w wx gx gm va' all' p' kw' ∧ all'.length ≤ s + bl.length)
          case first =>
            by_cases d1 : kind = 1
            · subst d1
              have o2 : wa.cell? ⟨go_, 2, none⟩ = some (.slice ba bl.length bc) := by simp [World.cell?, hrow]
              have hbl20 : bl.length ≤ 20000 := by omega
              have hby := bytesCopy_any wa _ bl HBA.out hbl20
              have hle := HSA.out.le
              have hlt := HSA.out.lt
              have hab20 : all.length + bl.length ≤ 20000 := by omega
              clear o0 hrow
              go_wp2_with fail
              refine hby.mono ?_
              clear hby
              rintro e w1 ⟨⟨gi, cap, rfl, hoi⟩, hb1⟩
              have hs1 := HSA.out.later hb1
              have hgi := World.ownsRow.lt hoi gi rfl
              have hic := (OwnB.parts hoi).resolve_left (fun h => by cases h.1)
              have hcap : bl.length + 6 ≤ cap := by
                obtain ⟨g', cap', h, h1, _⟩ := hic
                simp at h
                obtain ⟨_, _, rfl⟩ := h
                simp [marksL] at h1
                exact h1
              have hin : BytesAt w1 (.slice (some ⟨gi, 0, none⟩) bl.length cap) bl := by
                obtain ⟨g', cap', h, _, _, _, h2⟩ := hic
                simp at h
                obtain ⟨rfl, _, rfl⟩ := h
                have h9 := at_cells (g := gi) (all := bl ++ marksL) h2 (p := 0) (n := bl.length) (by simp) cap
                rw [List.drop_zero, List.take_left] at h9
                exact h9
              have hput := put_any w1 gx (all.drop p) kw _ bl hs1.rd hin (by rw [List.length_drop]; omega)
              have o21 := (hb1.cell (p := ⟨go_, 2, none⟩) hgl).trans o2
              have HS1 := Lib.hid hs1
              have HOI := Lib.hid hoi
              have hzb1 := hb1.size
              clear o2 hin hic hs1 hoi
              go_wp2_with fail
              refine hput.mono ?_
              clear hput
              rintro e w2 ⟨rfl, hk2, hu2⟩
              have hz2x := hu2.size
              have hm2 := HS1.out.md.upd hu2 (by omega)
              have ho2 := HS1.out.own.later (w' := w2) fun j hj => hu2.block j (World.ownsRow.lt HS1.out.own j hj).2 (by have := (World.ownsRow.lt HS1.out.own j hj).1; omega)
              have hi2 := HOI.out.later (w' := w2) fun j hj => hu2.block j (World.ownsRow.lt HOI.out j hj).2 (by have := (World.ownsRow.lt HOI.out j hj).1; omega)
              have o22 : w2.cell? ⟨go_, 2, none⟩ = some (.slice ba bl.length bc) := (World.cell?_of_block (hu2.block go_ (by omega) (by omega))).trans o21
              have hB2 : Below w.heap.size w w2 := (HS1.out.low).trans (hu2.below hlt.2.2 (by have := HS1.out.low.size; omega))
              have HO2 := Lib.hid ho2
              have HI2 := Lib.hid hi2
              have HM2 := Lib.hid hm2
              have HK2 := Lib.hid hk2
              have hgb : gx < w2.heap.size := by omega
              have hdd : (all ++ bl).drop p = all.drop p ++ bl := by rw [List.drop_append, show p - all.length = 0 by omega, List.drop_zero]
              have HDD := Lib.hid hdd
              clear hdd ho2 hi2 hm2 hk2 hu2 o21 hgi
              go_upto_region 15 with fail
              go_cut [8] (fun v8 wx => v8 = .bool true ∧ ∃ va' : Value, Stand w wx gx gm va' (all ++ bl) p kw ∧ OwnB wx wa.heap.size (.slice (some ⟨gi, 0, none⟩) (bl.length + 6) cap) (bl ++ marksL) ∧ va'.ownBlock ≠ some gi ∧ wx.cell? ⟨go_, 2, none⟩ = some (.slice ba bl.length bc) ∧ Below w.heap.size w wx ∧ w2.heap.size ≤ wx.heap.size)
              case first =>
                obtain ⟨va0, vc0, rfl⟩ := HS1.out.form
                obtain ⟨m0, m1, m2, f0, f1, f2⟩ := HM2.out.cells
                have hlow := fun i e => World.ownsRow.lt HO2.out i e
                have hlowi := World.ownsRow.lt HI2.out gi rfl
                have hvi : ∀ i, (Value.slice va0 all.length vc0).ownBlock = some i → i ≠ gi := fun i e => by
                  have h1 := World.ownsRow.lt HSA.out.own i e
                  omega
                have HVI := Lib.hid hvi
                clear hvi
                have fin : ∀ (w3 : World) (va' : Value), (∀ j, j < w2.heap.size → (Value.slice va0 all.length vc0).ownBlock ≠ some j → w3.heap[j]? = w2.heap[j]?) → OwnB w3 (gm + 1) va' (all ++ bl) → Below w.heap.size w w3 → w2.heap.size ≤ w3.heap.size → va'.ownBlock ≠ some gi →
                    Stand w (w3.setCell ⟨gm, 0, none⟩ va') gx gm va' (all ++ bl) p kw ∧ OwnB (w3.setCell ⟨gm, 0, none⟩ va') wa.heap.size (.slice (some ⟨gi, 0, none⟩) (bl.length + 6) cap) (bl ++ marksL) ∧ va'.ownBlock ≠ some gi ∧ (w3.setCell ⟨gm, 0, none⟩ va').cell? ⟨go_, 2, none⟩ = some (.slice ba bl.length bc) ∧ Below w.heap.size w (w3.setCell ⟨gm, 0, none⟩ va') ∧ w2.heap.size ≤ (w3.setCell ⟨gm, 0, none⟩ va').heap.size := by
                  intro w3 va' hf ho hB hz hne
                  have hr3 : RdAt w3 gx (all.drop p ++ bl) kw := (hf gx (by omega) (fun e => by have := (hlow _ e).1; omega)).trans HK2.out
                  have hm3 : MdAt w3 gm (.slice va0 all.length vc0) p kw := (hf gm (by omega) (fun e => by have := (hlow _ e).1; omega)).trans HM2.out
                  have hi3 : OwnB w3 wa.heap.size (.slice (some ⟨gi, 0, none⟩) (bl.length + 6) cap) (bl ++ marksL) := HI2.out.later fun j hj => by
                    have : gi = j := by simpa [Value.ownBlock] using hj
                    subst this
                    exact hf gi hlowi.2 (fun e => HVI.out _ e rfl)
                  have hg3 : w3.heap[go_]? = w2.heap[go_]? := hf go_ (by omega) (fun e => by have := HVGO.out _ e; omega)
                  have hBs : Below w.heap.size w (w3.setCell ⟨gm, 0, none⟩ va') := hB.setCell (p := ⟨gm, 0, none⟩) (by simp; omega) _
                  refine ⟨⟨?_, hm3.set0 va', ho.later fun j hj => Below.heap_setCell _ _ _ _ (by have := (World.ownsRow.lt ho j hj).1; simp; omega), hBs, ⟨hlt.1, by simp [World.setCell]; omega, hlt.2.2⟩, ⟨by simp; omega, by simp; omega, hle.2.2⟩⟩, hi3.later fun j hj => Below.heap_setCell _ _ _ _ (by have := (World.ownsRow.lt hi3 j hj).1; simp; omega), hne, ?_, hBs, by simpa [World.setCell] using hz⟩
                  · rw [HDD.out]
                    exact hr3.far (by omega) 0 va'
                  · refine (World.cell?_of_block (w := w2) ?_).trans o22
                    exact (Below.heap_setCell _ _ _ _ (by simp; omega)).trans hg3
                have FIN := Lib.hid fin
                clear fin
                by_cases hb0 : bl = []
                · subst hb0
                  have hno := HAB0.out.none
                  have HNO := Lib.hid hno
                  clear hno
                  simp only [List.length_nil] at o22 ⊢
                  rcases HO2.out.parts with ⟨e9, rfl⟩ | ⟨g9, cap9, e9, hc9, hg9, _, _⟩
                  · simp at e9
                    obtain ⟨rfl, rfl⟩ := e9
                    cases ba with
                    | none =>
                      obtain ⟨_, rfl⟩ := HNO.out _ _ rfl
                      go_region
                      all_goals
                        have hf := FIN.out w2.drew (.slice none ([] : List UInt8).length 0) (fun _ _ _ => rfl) (by rw [List.append_nil]; exact HO2.out) hB2.drew (Nat.le_refl _) (fun e => HVI.out _ e rfl)
                        have HF := Lib.hid hf
                        clear hf
                        go_wp2
                        go_meet
                        case rel => exact ⟨rfl, _, HF.out⟩
                    | some A =>
                      go_region
                      all_goals
                        have hf := FIN.out w2.drew (.slice none ([] : List UInt8).length 0) (fun _ _ _ => rfl) (by rw [List.append_nil]; exact HO2.out) hB2.drew (Nat.le_refl _) (fun e => HVI.out _ e rfl)
                        have HF := Lib.hid hf
                        clear hf
                        go_wp2
                        go_meet
                        case rel => exact ⟨rfl, _, HF.out⟩
                  · simp at e9
                    obtain ⟨rfl, rfl⟩ := e9
                    cases ba with
                    | none =>
                      obtain ⟨_, rfl⟩ := HNO.out _ _ rfl
                      go_region
                      all_goals
                        have hf := FIN.out w2.drew (.slice (some ⟨g9, 0, none⟩) all.length vc0) (fun _ _ _ => rfl) (by rw [List.append_nil]; exact HO2.out) hB2.drew (Nat.le_refl _) (fun e => HVI.out _ e rfl)
                        have HF := Lib.hid hf
                        clear hf
                        go_wp2
                        go_meet
                        case rel => exact ⟨rfl, _, HF.out⟩
                    | some A =>
                      go_region
                      all_goals
                        have hf := FIN.out w2.drew (.slice (some ⟨g9, 0, none⟩) all.length vc0) (fun _ _ _ => rfl) (by rw [List.append_nil]; exact HO2.out) hB2.drew (Nat.le_refl _) (fun e => HVI.out _ e rfl)
                        have HF := Lib.hid hf
                        clear hf
                        go_wp2
                        go_meet
                        case rel => exact ⟨rfl, _, HF.out⟩
                · have hA2 := (HAB0.out.below hB2).arg
                  obtain ⟨a', c', e', h1', h2'⟩ := hA2
                  obtain ⟨b', o', e2', hb', hcb⟩ := h2' hb0
                  obtain rfl : ba = some ⟨b', o', none⟩ := by
                    simp at e'
                    rw [e'.1, e2']
                  have hpos : 0 < bl.length := List.length_pos_iff.2 hb0
                  have hnw : ∀ j u, (cellsB bl)[j]? = some u → w2.drew.cell? ((⟨b', o', none⟩ : Addr).add j) = some u := by
                    intro j u hj
                    have hjl : j < bl.length := by
                      have := (List.getElem?_eq_some_iff.1 hj).1
                      simpa [cellsB] using this
                    rw [add_pl]
                    have h9 := hcb j hjl
                    have h10 : w2.drew.cell? ⟨b', o' + j, none⟩ = _ := h9
                    rw [h10]
                    simpa [cellsB, hjl, List.getD] using hj
                  have hone : ∀ u ∈ cellsB bl, u.oneCell' = true := by
                    intro u hu
                    simp [cellsB] at hu
                    obtain ⟨k, _, rfl⟩ := hu
                    rfl
                  have HNW := Lib.hid hnw
                  have HONE := Lib.hid hone
                  clear hcb hnw hone e' h2' e2'
                  go_region_law ((refine step_append_lies _ (by rfl) _ _ _ (by rfl) (gm + 1) 5 i0 _ 1 1 Tryd.underlying22 hi0 hz0 hz1 hz2 rfl (by omega) (.slice va0 all.length vc0) all.length (cellsB all) (by rfl) (World.ownsRow.drew HO2.out) ⟨b', o', none⟩ bl.length bc (cellsB bl) (by rfl) (by simp [cellsB]) HNW.out HONE.out hpos (by unfold maxLen; omega) (by omega) (by simp; omega) w2.heap.size (by simp) ?_; intro gg cap2 w3 hown3 hgrow hat hlt3; have hk3 : MdAt w3 gm (.slice va0 all.length vc0) p kw := (hgrow.block gm (by simp; omega) (fun e => by have := (hlow _ e.symm).1; omega)).trans HM2.out; obtain ⟨a0, a1, a2, y0, y1, y2⟩ := hk3.cells))
                  all_goals
                    have ho3 : OwnB w3 (gm + 1) (.slice (some ⟨gg, 0, none⟩) (all.length + bl.length) cap2) (all ++ bl) := by
                      unfold OwnB
                      rw [cellsB_append, List.length_append]
                      exact hown3
                    have hB3 : Below w.heap.size w w3 := hB2.drew.grown hgrow (by simp; omega) (fun i e => by have := (hlow i e).1; omega)
                    have hz3 := hgrow.size
                    have hf := FIN.out w3 (.slice (some ⟨gg, 0, none⟩) (all.length + bl.length) cap2) (fun j hj hne => hgrow.block j hj (fun e => hne e.symm)) ho3 hB3 hz3 (by
                      simp [Value.ownBlock]
                      rcases hat with h | h
                      · exact HVI.out _ h
                      · omega)
                    have HF := Lib.hid hf
                    clear hown3 hgrow hat hlt3 ho3 hB3 hz3 hf
                    go_wp2
                    go_meet
                    case rel => exact ⟨rfl, _, HF.out⟩
              case rest =>
                obtain ⟨rfl, va', hs3, hi3, hne3, o23, hB3, hz3⟩ := hcut
                have hA3 := HAB0.out.below hB3
                have hkept := kept_yes wc wa.heap.size gi cap _ bl hi3 hA3.arg hbl20
                have HS3 := Lib.hid hs3
                have HI3 := Lib.hid hi3
                have hgi3 := World.ownsRow.lt hi3 gi rfl
                clear hs3 hi3 o22 hB2 hA3
                go_wp2_with fail
                refine hkept.mono ?_
                clear hkept
                rintro e w4 ⟨rfl, hb4⟩
                have hs4 := HS3.out.later hb4
                have hi4 := HI3.out.later (w' := w4) fun j hj => hb4.block j (World.ownsRow.lt HI3.out j hj).2
                have HS4 := Lib.hid hs4
                have hz4 := hb4.size
                clear hs4 hb4 o23
                go_wp2
                go_loopw [10, 72] (fun _ v72 wz => ∃ (j : Nat) (xs : List UInt8), j ≤ bl.length ∧ v72 = .int .i64 j ∧ xs.length = bl.length + 6 ∧ OwnB wz wa.heap.size (.slice (some ⟨gi, 0, none⟩) (bl.length + 6) cap) xs ∧ Upd gi w4 wz) (fun _ v72 _ => bl.length - (intOf v72).toNat)
                case atStart => exact ⟨0, bl ++ marksL, Nat.zero_le _, rfl, by simp [marksL], hi4, Upd.refl _ _⟩
                case round =>
                  clear hi4
                  obtain ⟨j, xs, hj, rfl, hxl, hox, hux⟩ := hrel
                  by_cases hjl : j < bl.length
                  · have hjl' : (j : Int) < bl.length := by omega
                    obtain ⟨y0, y1, y2⟩ := hox.set (k := j) (by omega) 7
                    have HY2 := Lib.hid y2
                    have HUX := Lib.hid hux
                    clear y2 hox hux
                    go_wp2
                    go_roundw
                    case rel => exact ⟨j + 1, xs.set j 7, by omega, by go_num, by simp [hxl], HY2.out, HUX.out.setCell j _⟩
                    case measure => simp [intOf]; omega
                  · obtain rfl : j = bl.length := by omega
                    go_wp2
                    go_meet
                    case rel => exact ⟨by first | rfl | simp, va', all ++ bl, p, kw, HS4.out.new hux (by omega) (by omega) hne3 (by have := HS1.out.low.size; have := HSA.out.low.size; omega), by simp; omega⟩
            have e1 : (kind == 1) = false := beq_eq_false_iff_ne.2 d1
            by_cases d2 : kind = 2
            · subst d2
              clear e1 d1
              by_cases hT : 0 < kw ∨ cutNl (all.drop p) = none
              · have hr : Calls Tryd.prog 10 #[.pointer (some ⟨gx, 0, none⟩)] wa fun e w' => e = .returned (.tuple #[.agg #[.string (bs []), .bool false], .bool false]) ∧ Below wa.heap.size wa w' := by
                  cases hc : cutNl (all.drop p) with
                  | none => exact line_no wa gx _ _ HSA.out.rd hc
                  | some x =>
                    rcases hT with h | h
                    · exact line_waits wa gx _ x.1 x.2 _ HSA.out.rd hc (by omega)
                    · rw [hc] at h; cases h
                have hm : ∀ w', Stand w w' gx gm va all p kw → Calls Tryd.prog 14 #[.pointer (some ⟨gm, 0, none⟩)] w' fun e w'' => e = .returned (.tuple #[.agg #[.string (bs []), .bool false], .bool false]) ∧ Below w'.heap.size w' w'' := by
                  intro w' hs'
                  by_cases h0 : 0 < kw
                  · exact refLine_waits w' gm va p kw hs'.md (by omega)
                  · obtain rfl : kw = 0 := by omega
                    exact refLine_no w' gm (gm + 1) va all p hs'.md hs'.own hs'.le.1 (by have := hs'.le.2.1; omega) (hT.resolve_left (by omega))
                have HM := Lib.hid hm
                clear hT hm
                go_wp2_with fail
                refine hr.mono ?_
                clear hr
                rintro e w1 ⟨rfl, hb1⟩
                have hs1 := HSA.out.later hb1
                go_wp2_with fail
                obtain ⟨w2, hw2⟩ : ∃ w2, w1.alloc (.cells #[.string (bs []), .bool false] 30) = w2 := ⟨_, rfl⟩
                have b2 : Below w1.heap.size w1 w2 := by rw [← hw2]; exact (Below.refl _ _).alloc (Nat.le_refl _) _
                have r2 : w2.heap[w1.heap.size]? = some (.cells #[.string (bs []), .bool false] 30 (0, 0)) := by rw [← hw2]; exact heap_new _ _
                rw [hw2]
                clear hw2
                refine (HM.out w2 (hs1.later b2)).mono ?_
                rintro e w3 ⟨rfl, hb3⟩
                have hs3 := (hs1.later b2).later hb3
                have r3 := (hb3.block _ (Array.getElem?_eq_some_iff.1 r2).1).trans r2
                have hr3l := (Array.getElem?_eq_some_iff.1 r3).1
                have y0 : w3.cell? ⟨w1.heap.size, 0, none⟩ = some (.string (bs [])) := by simp [World.cell?, r3]
                have y1 : w3.cell? ⟨w1.heap.size, 1, none⟩ = some (.bool false) := by simp [World.cell?, r3]
                have HS3 := Lib.hid hs3
                clear r2 r3 hb3 b2 hs1 hb1 hs3 o0 hrow
                go_wp2
                go_meet
                case rel => exact ⟨rfl, va, all, p, kw, HS3.out.later ((Below.refl _ _).alloc (Nat.le_refl _) _), by omega⟩
              · rw [not_or] at hT
                obtain rfl : kw = 0 := by omega
                obtain ⟨x, hx⟩ := Option.ne_none_iff_exists'.1 hT.2
                obtain ⟨ls, lr⟩ := x
                have hcs := (cutNl_some hx).1
                have hlen := congrArg List.length hcs
                rw [List.length_drop, List.length_append, List.length_cons] at hlen
                have hle := HSA.out.le
                have hdr : all.drop (p + ls.length + 1) = lr := by
                  rw [show p + ls.length + 1 = p + (ls.length + 1) by omega, ← List.drop_drop, hcs, List.drop_append]
                  simp [List.drop_of_length_le]
                have hr := line_yes wa gx _ ls lr 0 HSA.out.rd hx (by decide) (by rw [List.length_drop]; omega)
                have hm : ∀ w', MdAt w' gm va p 0 → OwnB w' (gm + 1) va all → Calls Tryd.prog 14 #[.pointer (some ⟨gm, 0, none⟩)] w' fun e w'' => e = .returned (.tuple #[.agg #[.string (bs (lineText ls)), .bool (lineLong ls)], .bool true]) ∧ MdAt w'' gm va (p + ls.length + 1) 0 ∧ Upd gm w' w'' := fun w' hM hO => refLine_yes w' gm (gm + 1) va all ls lr p hM hO (by omega) hle.1 (by omega) hx
                have HM := Lib.hid hm
                have HDR := Lib.hid hdr
                have hql : p + ls.length + 1 ≤ all.length := by omega
                obtain ⟨tx, htx⟩ : ∃ t, lineText ls = t := ⟨_, rfl⟩
                obtain ⟨tb, htb⟩ : ∃ t, lineLong ls = t := ⟨_, rfl⟩
                rw [htx, htb] at hr HM
                clear hT hm hx hcs hlen hdr htx htb
                go_wp2_with fail
                refine hr.mono ?_
                clear hr
                rintro e w1 ⟨rfl, hk1, hu1⟩
                go_wp2_with fail
                obtain ⟨w2, hw2⟩ : ∃ w2, w1.alloc (.cells #[.string (bs tx), .bool tb] 30) = w2 := ⟨_, rfl⟩
                have b2 : Below w1.heap.size w1 w2 := by rw [← hw2]; exact (Below.refl _ _).alloc (Nat.le_refl _) _
                have r2 : w2.heap[w1.heap.size]? = some (.cells #[.string (bs tx), .bool tb] 30 (0, 0)) := by rw [← hw2]; exact heap_new _ _
                rw [hw2]
                clear hw2
                have hu2 : Upd gx wa w2 := hu1.trans (.of_below b2)
                have hlt := HSA.out.lt
                refine (HM.out w2 (HSA.out.md.upd hu2 (by omega)) (HSA.out.own.later fun j hj => hu2.block j (World.ownsRow.lt HSA.out.own j hj).2 (by have := (World.ownsRow.lt HSA.out.own j hj).1; omega))).mono ?_
                rintro e w3 ⟨rfl, hm3, hu3⟩
                have hw1s := hu1.size
                have r3 := (hu3.block _ (Array.getElem?_eq_some_iff.1 r2).1 (by omega)).trans r2
                have hr3l := (Array.getElem?_eq_some_iff.1 r3).1
                have y0 : w3.cell? ⟨w1.heap.size, 0, none⟩ = some (.string (bs tx)) := by simp [World.cell?, r3]
                have y1 : w3.cell? ⟨w1.heap.size, 1, none⟩ = some (.bool tb) := by simp [World.cell?, r3]
                have hs3 : Stand w w3 gx gm va all (p + ls.length + 1) 0 := HSA.out.told hu2 hu3 (by rw [HDR.out]; exact (hk1.later b2)) hm3 hql (by decide)
                have HS3 := Lib.hid hs3
                clear r2 r3 hu3 b2 hu1 hu2 hk1 hm3 hs3 o0 hrow hw1s
                go_wp2
                go_meet
                case rel => exact ⟨by first | rfl | simp, va, all, p + ls.length + 1, 0, HS3.out.later ((Below.refl _ _).alloc (Nat.le_refl _) _), by omega⟩
            have e2 : (kind == 2) = false := beq_eq_false_iff_ne.2 d2
            by_cases d3 : kind = 3
            · subst d3
              clear e1 e2 d1 d2
              have o1 : wa.cell? ⟨go_, 1, none⟩ = some (.int .i64 n) := by simp [World.cell?, hrow]
              have hEA := HE.out.below (Below.mono HSA.out.low (Nat.le_refl _))
              have HEA := Lib.hid hEA
              clear hEA
              by_cases hR : n < 1 ∨ 100000 < n
              · have x1 : ∀ g : Grow wa, Calls Tryd.prog 16 #[.pointer (some ⟨gx, 0, none⟩), .int .i64 n] g.v fun e w' => e = .returned (errV (a 0)) ∧ w' = g.v := fun g => (expect_range g.v gx n (errV (a 0)) ((HEA.out.below g.h).cell 0 (by decide)) hR).mono fun _ _ ⟨h, k⟩ => ⟨h, k.symm⟩
                have x2 : ∀ g : Grow wa, Calls Tryd.prog 15 #[errV (a 0)] g.v fun e w' => e = .returned (.int .i64 1) ∧ Below g.v.heap.size g.v w' := fun g => num_err g.v a 0 (by decide) (HEA.out.below g.h)
                have x3 : ∀ g : Grow wa, Calls Tryd.prog 17 #[.pointer (some ⟨gm, 0, none⟩), .int .i64 n] g.v fun e w' => e = .returned (.int .i64 1) ∧ w' = g.v := fun g => (refExpect_range g.v gm n hR).mono fun _ _ ⟨h, k⟩ => ⟨h, k.symm⟩
                have X1 := Lib.hid x1
                have X2 := Lib.hid x2
                have X3 := Lib.hid x3
                have O0 := fun g : Grow wa => g.cell o0
                have O1 := fun g : Grow wa => g.cell o1
                clear x1 x2 x3 hrow hR
                go_wp2
                refine wp_region_grow (by kernel_rfl) (by kernel_rfl) ?_
                repeat (go_big_quiet_step ((first | (go_at_call 16; exact grow_same (X1.out _)) | (go_at_call 15; exact grow_call (X2.out _)) | (go_at_call 17; exact grow_same (X3.out _)))))
                refine wpQuiet_nil ?_
                rintro _ ⟨gw, rfl⟩
                go_wp2
                go_meet
                case rel => exact ⟨by first | rfl | simp, va, all, p, kw, HSA.out.later gw.h, by omega⟩
              by_cases h0 : 0 < kw
              · have x1 : ∀ g : Grow wa, Calls Tryd.prog 16 #[.pointer (some ⟨gx, 0, none⟩), .int .i64 n] g.v fun e w' => e = .returned (errV (a 8)) ∧ w' = g.v := fun g => (expect_state g.v gx _ kw n (errV (a 8)) (HSA.out.later g.h).rd ((HEA.out.below g.h).cell 8 (by decide)) (by omega) (by omega) (by omega)).mono fun _ _ ⟨h, k⟩ => ⟨h, k.symm⟩
                have x2 : ∀ g : Grow wa, Calls Tryd.prog 15 #[errV (a 8)] g.v fun e w' => e = .returned (.int .i64 9) ∧ Below g.v.heap.size g.v w' := fun g => num_err g.v a 8 (by decide) (HEA.out.below g.h)
                have x3 : ∀ g : Grow wa, Calls Tryd.prog 17 #[.pointer (some ⟨gm, 0, none⟩), .int .i64 n] g.v fun e w' => e = .returned (.int .i64 9) ∧ w' = g.v := fun g => (refExpect_state g.v gm va p kw n (HSA.out.later g.h).md (by omega) (by omega) (by omega)).mono fun _ _ ⟨h, k⟩ => ⟨h, k.symm⟩
                have X1 := Lib.hid x1
                have X2 := Lib.hid x2
                have X3 := Lib.hid x3
                have O0 := fun g : Grow wa => g.cell o0
                have O1 := fun g : Grow wa => g.cell o1
                clear x1 x2 x3 hrow hR
                go_wp2
                refine wp_region_grow (by kernel_rfl) (by kernel_rfl) ?_
                repeat (go_big_quiet_step ((first | (go_at_call 16; exact grow_same (X1.out _)) | (go_at_call 15; exact grow_call (X2.out _)) | (go_at_call 17; exact grow_same (X3.out _)))))
                refine wpQuiet_nil ?_
                rintro _ ⟨gw, rfl⟩
                go_wp2
                go_meet
                case rel => exact ⟨by first | rfl | simp, va, all, p, kw, HSA.out.later gw.h, by omega⟩
              obtain rfl : kw = 0 := by omega
              obtain ⟨N, rfl⟩ : ∃ N : Nat, n = N := ⟨n.toNat, by omega⟩
              have hlt := HSA.out.lt
              have hle := HSA.out.le
              have hk0 : RdAt wa.drew gx (all.drop p) 0 := HSA.out.rd
              have hm0 : MdAt wa.drew gm va p 0 := HSA.out.md
              obtain ⟨m0, m1, m2, f0, f1, f2⟩ := hm0.cells
              have o1 : wa.drew.cell? ⟨go_, 1, none⟩ = some (.int .i64 N) := by
                have hr9 : wa.drew.heap[go_]? = _ := hrow
                simp [World.cell?, hr9]
              have hgd : go_ < wa.drew.heap.size := hgl
              have h00 : (0 : Int) ≤ 0 := Int.le_refl 0
              have hN1 : (1 : Int) ≤ N := by omega
              have hN2 : (N : Int) ≤ 100000 := by omega
              have hgx1 : go_ ≠ gx := by omega
              have hgm1 : go_ ≠ gm := by omega
              have hxm : gm ≠ gx := by omega
              have hmx : gx ≠ gm := by omega
              clear hR h0 HEA o0 m0 m1 m2 f0 f1 f2 hrow
              go_wp2
              go_region_with ((first
                | (go_at_call 16; refine (expect_ok _ gx (all.drop p) 0 N (by first | exact hk0 | assumption) hN1 hN2 h00).mono ?_; rintro e w5 ⟨rfl, hk5, hu5⟩; try have hm5 : MdAt w5 gm va p 0 := MdAt.upd hm0 hu5 hxm; try have o5 : w5.cell? ⟨go_, 1, none⟩ = some (.int .i64 N) := (World.cell?_of_block (hu5.block go_ hgd hgx1)).trans o1)
                | (go_at_call 15; refine (num_nil _).mono ?_; rintro e w6 ⟨rfl, rfl⟩)
                | (go_at_call 17; refine (refExpect_ok _ gm va p N (by first | exact hm0 | assumption) hN1 hN2).mono ?_; rintro e w7 ⟨rfl, hm7, hu7⟩; try have hk7 : RdAt w7 gx (all.drop p) 0 := RdAt.upd hk0 hu7 hmx; try have o7 : w7.cell? ⟨go_, 1, none⟩ = some (.int .i64 N) := (World.cell?_of_block (hu7.block go_ hgd hgm1)).trans o1)))
              all_goals
                have hfin : ∀ wf, (Stand w wf gx gm va all p N) → Stand w wf gx gm va all p N := fun _ h => h
                have hst := hfin _ (by first | exact HSA.out.told ((Upd.refl gx wa).drew.trans hu5) hu7 hk5 hm7 hle.1 (by omega) | exact HSA.out.told2 ((Upd.refl gm wa).drew.trans hu7) hu5 hm7 hk5 hle.1 (by omega))
                have HST9 := Lib.hid hst
                clear hfin hst
                go_wp2
                go_meet
                case rel => exact ⟨by first | rfl | simp, va, all, p, N, HST9.out, by omega⟩
            have e3 : (kind == 3) = false := beq_eq_false_iff_ne.2 d3
            by_cases d4 : kind = 4
            · subst d4
              clear e1 e2 e3 d1 d2 d3
              have hle := HSA.out.le
              by_cases hT : kw = 0 ∨ all.length - p < kw
              · have hr := stretch_no wa gx _ kw HSA.out.rd (by rw [List.length_drop]; omega) (by rw [List.length_drop]; omega)
                have hm : ∀ w', Stand w w' gx gm va all p kw → Calls Tryd.prog 19 #[.pointer (some ⟨gm, 0, none⟩)] w' fun e w'' => e = .returned (.tuple #[.string (bs []), .bool false]) ∧ Below w'.heap.size w' w'' := fun w' hs' => refStretch_no w' gm (gm + 1) va all p kw hs'.md hs'.own hs'.le.1 (by omega) (by omega) (by omega)
                have HM := Lib.hid hm
                clear hT hm
                go_wp2_with fail
                refine hr.mono ?_
                clear hr
                rintro e w1 ⟨rfl, hb1⟩
                have hs1 := HSA.out.later hb1
                have HS1 := Lib.hid hs1
                clear hs1 hb1 o0 hrow
                go_wp2_with fail
                refine (HM.out w1 HS1.out).mono ?_
                rintro e w3 ⟨rfl, hb3⟩
                have hs3 := HS1.out.later hb3
                have HS3 := Lib.hid hs3
                clear hs3 hb3
                go_wp2
                go_meet
                case rel => exact ⟨by first | rfl | simp, va, all, p, kw, HS3.out, by omega⟩
              · rw [not_or] at hT
                have hpk : p + kw ≤ all.length := by omega
                have hr := stretch_yes wa gx _ kw HSA.out.rd (by omega) (by rw [List.length_drop]; omega) (by rw [List.length_drop]; omega)
                have hm : ∀ w', MdAt w' gm va p kw → OwnB w' (gm + 1) va all → Calls Tryd.prog 19 #[.pointer (some ⟨gm, 0, none⟩)] w' fun e w'' => e = .returned (.tuple #[.string (bs ((all.drop p).take kw)), .bool true]) ∧ MdAt w'' gm va (p + kw) 0 ∧ Upd gm w' w'' := fun w' hM hO => refStretch_yes w' gm (gm + 1) va all p kw hM hO (by omega) (by omega) (by omega) hpk
                rw [List.drop_drop] at hr
                obtain ⟨tx, htx⟩ : ∃ t, (all.drop p).take kw = t := ⟨_, rfl⟩
                rw [htx] at hr hm
                have HM := Lib.hid hm
                clear hT hm htx
                go_wp2_with fail
                refine hr.mono ?_
                clear hr
                rintro e w1 ⟨rfl, hk1, hu1⟩
                have hlt := HSA.out.lt
                have hm1 := HSA.out.md.upd hu1 (by omega)
                have ho1 := HSA.out.own.later (w' := w1) fun j hj => hu1.block j (World.ownsRow.lt HSA.out.own j hj).2 (by have := (World.ownsRow.lt HSA.out.own j hj).1; omega)
                have HM1 := Lib.hid hm1
                have HO1 := Lib.hid ho1
                clear hm1 ho1 o0 hrow
                go_wp2_with fail
                refine (HM.out w1 HM1.out HO1.out).mono ?_
                rintro e w3 ⟨rfl, hm3, hu3⟩
                have hs3 : Stand w w3 gx gm va all (p + kw) 0 := HSA.out.told hu1 hu3 hk1 hm3 hpk (by decide)
                have HS3 := Lib.hid hs3
                clear hs3 hm3 hu3 hk1 hu1
                go_wp2
                go_meet
                case rel => exact ⟨by first | rfl | simp, va, all, p + kw, 0, HS3.out, by omega⟩
            have e4 : (kind == 4) = false := beq_eq_false_iff_ne.2 d4
            clear d1 d2 d3 d4
            go_wp2
            go_meet
            case rel => exact ⟨rfl, va, all, p, kw, HSA.out, by omega⟩
          case rest =>
            obtain ⟨rfl, va', all', p', kw', hs', hal'⟩ := hcut
            have hle := hs'.le
            obtain ⟨a3, c3, rfl⟩ := hs'.form
            have hlen9 : (((all'.drop p').length : Nat) : Int) = (all'.length : Int) - p' := by rw [List.length_drop]; omega
            have hleft : ∀ q, Calls Tryd.prog 11 #[.pointer (some ⟨gx, 0, none⟩)] (wc.drewN q) fun e w' => e = .returned (.int .i64 ((all'.length : Int) - p')) ∧ w' = wc.drewN q := fun q => by
              have h9 := left_any (wc.drewN q) gx _ _ (show RdAt (wc.drewN q) gx (all'.drop p') kw' from hs'.rd) (by rw [List.length_drop]; omega)
              rw [hlen9] at h9
              exact h9.mono fun _ _ ⟨h, k⟩ => ⟨h, k.symm⟩
            obtain ⟨m0, m1, m2, f0, f1, f2⟩ := hs'.md.cells
            have HLE := Lib.hid hleft
            have HS9 := Lib.hid hs'
            clear hrow o0 hlen9 hleft hs'
            go_wp2
            go_quiet ((go_at_call 11; exact Calls.quiet_of_same (HLE.out _)))
            have hq9 : ((all'.length : Int) - (p' : Int) != (all'.length : Int) - (p' : Int)) = false := by simp
            go_wp2
            go_roundw
            case rel => exact ⟨k + 1, s + bl.length, _, all', p', kw', HK1.out, by go_num, by go_num, HS9.out.later (below_drewN (Below.refl _ _) _), hal', HQ2.out⟩
            case measure => have h9 := HK1.out; simp [intOf]; omega
    · obtain rfl : k = ops.length := by omega
      go_wp2
      go_ret
      exact ⟨rfl, hst.low⟩

end Go.Proofs.YtglopeijohdobaaDoor
