/- section: right's test of numbers, slices.ContainsFunc; large. -/
import Derived.Test.YtgkbigbekmkobaaGreatDoorK1
set_option linter.unusedVariables false
set_option linter.unusedSimpArgs false
namespace Go.Proofs.YtgkbigbekmkobaaGreatDoor
open Go.RowKit

/-- a slice that reads as these numbers -/
def IntsAt (w : World) (v : Value) (l : List Int) : Prop := ∃ a c, v = .slice a l.length c ∧ (l ≠ [] → ∃ b o, a = some ⟨b, o, none⟩ ∧ b < w.heap.size ∧ ∀ j, j < l.length → w.cell? ⟨b, o + j, none⟩ = some (.int .i64 (l.getD j 0)))
theorem IntsAt.below {w w' : World} {v : Value} {l : List Int} (h : IntsAt w v l) (hb : Below w.heap.size w w') : IntsAt w' v l := by
  obtain ⟨a, c, h1, h3⟩ := h
  refine ⟨a, c, h1, fun hne => ?_⟩
  obtain ⟨b, o, h4, h5, h6⟩ := h3 hne
  exact ⟨b, o, h4, Nat.lt_of_lt_of_le h5 hb.size, fun j hj => (hb.cell (p := ⟨b, o + j, none⟩) h5).trans (h6 j hj)⟩
theorem OwnI.ints {w : World} {B : Nat} {v : Value} {l : List Int} (h : OwnI w B v l) : IntsAt w v l := by
  by_cases hl : l = []
  · subst hl
    rcases h.2 with ⟨rfl, _⟩ | ⟨g, cap, cur, rfl, _⟩
    · exact ⟨none, 0, rfl, fun h => absurd rfl h⟩
    · exact ⟨_, cap, rfl, fun h => absurd rfl h⟩
  · obtain ⟨g, cap, rfl, hg, _⟩ := h.parts hl
    refine ⟨_, cap, rfl, fun _ => ⟨g, 0, rfl, hg, fun j hj => ?_⟩⟩
    rw [Nat.zero_add]
    exact h.cell j _ (by simp [List.getD, hj])
def badN (n : Int) : Bool := decide (n < 1) || decide (999 < n)

set_option maxRecDepth 100000 in
theorem right1_any (n : Int) (w : World) : Calls Tryz.prog 19 #[.int .i64 n] w fun e w' => e = .returned (.bool (badN n)) ∧ w = w' := by
  unfold badN
  rcases h : decide (n < 1) with _ | _
  · go_enter Tryz.func19, Tryz.ntmps19
    go_wp2
    go_ret
    exact ⟨by simp, rfl⟩
  · go_enter Tryz.func19, Tryz.ntmps19
    go_wp2
    go_ret
    exact ⟨by simp, rfl⟩

set_option maxRecDepth 100000 in
set_option maxHeartbeats 1000000 in
theorem indexI_any (v : Value) (ls : List Int) (w : World) (hv : IntsAt w v ls) (hl : ls.length ≤ 1000) :
    Calls Tryz.prog 30 #[v, .func (.func 19) #[] #[]] w fun e w' => (∃ i : Int, e = .returned (.int .i64 i) ∧ decide (0 ≤ i) = ls.any badN) ∧ Below w.heap.size w w' := by
  have HV := Lib.hid hv
  obtain ⟨A, hA⟩ : ∃ A, ls.any badN = A := ⟨_, rfl⟩
  rw [hA]
  have HA := Lib.hid hA
  obtain ⟨a, cap, rfl, hform⟩ := hv
  clear hA
  go_enter Tryz.func30, Tryz.ntmps30
  go_wp2
  go_loopw [8] (fun i wr => ∃ k : Nat, k ≤ ls.length ∧ i = .int .i64 k ∧ Hid ((ls.drop k).any badN = A) ∧ Below w.heap.size w wr) (fun i _ => ls.length - (intOf i).toNat)
  case atStart => exact ⟨0, Nat.zero_le _, rfl, HA.out, Below.refl _ _⟩
  case round =>
    obtain ⟨k, hk, rfl, hr, hB⟩ := hrel
    have hzr := hB.size
    by_cases hlt : k < ls.length
    · obtain ⟨b, o, rfl, hbl, hcells⟩ := hform (by rintro rfl; simp at hlt)
      have hcell := (hB.cell (p := ⟨b, o + k, none⟩) hbl).trans (hcells k hlt)
      obtain ⟨n, hnn⟩ : ∃ n, ls.getD k 0 = n := ⟨_, rfl⟩
      rw [hnn] at hcell
      have hr2 := hr.out
      rw [show ls.drop k = n :: ls.drop (k + 1) by rw [List.drop_eq_getElem_cons hlt, ← hnn]; simp [List.getD, hlt], List.any_cons] at hr2
      have HR2 := Lib.hid hr2
      have hlt' : (k : Int) < ls.length := by omega
      clear hnn hr hr2 hform hcells
      go_wp2_with fail
      refine (right1_any n _).mono ?_
      rintro e w1 ⟨rfl, rfl⟩
      rcases hs : badN n with _ | _
      · have hr3 := HR2.out
        rw [hs, Bool.false_or] at hr3
        have HR3 := Lib.hid hr3
        clear hr3 HR2 hs
        go_wp2
        go_roundw
        case rel => exact ⟨k + 1, by omega, by go_num, HR3.out, hB⟩
        case measure => simp [intOf]; omega
      · have hr3 := HR2.out
        rw [hs, Bool.true_or] at hr3
        subst hr3
        clear HR2 hs
        go_wp2
        go_ret
        exact ⟨⟨k, rfl, by simp⟩, hB⟩
    · obtain rfl : k = ls.length := by omega
      have hr2 := hr.out
      rw [List.drop_length] at hr2
      have hr3 : A = false := by rw [← hr2]; rfl
      subst hr3
      clear hr hr2 hform
      go_wp2
      go_ret
      exact ⟨⟨-1, rfl, rfl⟩, hB⟩

set_option maxRecDepth 100000 in
theorem containsI_any (v : Value) (ls : List Int) (w : World) (hv : IntsAt w v ls) (hl : ls.length ≤ 1000) :
    Calls Tryz.prog 18 #[v, .func (.func 19) #[] #[]] w fun e w' => e = .returned (.bool (ls.any badN)) ∧ Below w.heap.size w w' := by
  have hi := indexI_any v ls w hv hl
  obtain ⟨A, hA⟩ : ∃ A, ls.any badN = A := ⟨_, rfl⟩
  rw [hA] at hi ⊢
  have HI := Lib.hid hi
  clear hi hA hv
  go_enter Tryz.func18, Tryz.ntmps18
  go_wp2_with fail
  refine HI.out.mono ?_
  rintro e w1 ⟨⟨i, rfl, hi⟩, hb1⟩
  go_wp2
  go_ret
  exact ⟨by first | rfl | simp [hi], hb1⟩

/-! ### large -/
def upB (c : UInt8) : UInt8 := if 97 ≤ c.toNat ∧ c.toNat ≤ 122 then c - 32 else c
theorem upB_yes {c : UInt8} (h1 : 97 ≤ c.toNat) (h2 : c.toNat ≤ 122) : ((upB c).toNat : Int) = (c.toNat : Int) - 32 := by
  unfold upB
  rw [if_pos ⟨h1, h2⟩, UInt8.toNat_sub_of_le]
  · simp; omega
  · rw [UInt8.le_iff_toNat_le]; simp; omega
/-- a buffer of bytes -/
def BufAt (w : World) (g z : Nat) (l : List UInt8) : Prop := ∃ cs, w.heap[g]? = some (.cells cs 5 (z, z + 1)) ∧ l.length ≤ z ∧ ∀ i, i < l.length → cs[i]? = some (.int .u8 ((l.getD i 0).toNat : Int))
theorem BufAt.cell {w : World} {g z i : Nat} {l : List UInt8} (h : BufAt w g z l) (hi : i < l.length) : w.cell? ⟨g, i, none⟩ = some (.int .u8 ((l.getD i 0).toNat : Int)) ∧ w.frozen? ⟨g, i, none⟩ = false := by
  obtain ⟨cs, h1, h2, h3⟩ := h
  refine ⟨by simp [World.cell?, h1, h3 i hi], ?_⟩
  simp [World.frozen?, h1]
  omega
theorem BufAt.set {w : World} {g z i : Nat} {l : List UInt8} (h : BufAt w g z l) (hi : i < l.length) (c : UInt8) (k : Int) (hk : k = (c.toNat : Int)) : BufAt (w.setCell ⟨g, i, none⟩ (.int .u8 k)) g z (l.set i c) := by
  subst hk
  obtain ⟨cs, h1, h2, h3⟩ := h
  have hics : i < cs.size := (Array.getElem?_eq_some_iff.1 (h3 i hi)).1
  refine ⟨cs.setIfInBounds i (.int .u8 (c.toNat : Int)), by simp [World.setCell, Array.getElem?_modify, h1], by simpa using h2, fun j hj => ?_⟩
  rw [List.length_set] at hj
  rw [Array.getElem?_setIfInBounds]
  by_cases hij : i = j
  · subst hij
    simp [hics, List.getD, hi]
  · rw [if_neg hij, h3 j hj]
    simp [List.getD, hij]
theorem to_buf (l : List UInt8) (w : World) : ∃ (cap z : Nat) (w' : World), (convert 9 58 (.string (bs l))).run Tryz.prog w = .ok (.slice (some ⟨w.heap.size, 0, none⟩) l.length cap) w' ∧
    BufAt w' w.heap.size z l ∧ Below w.heap.size w w' ∧ w.heap.size < w'.heap.size := by
  have h := run_bytes_of_string (P := Tryz.prog) w 9 58 5 (bs l) Tryz.underlying9 Tryz.underlying58 Tryz.underlying5
  rw [bs_size] at h
  have hb : ∀ i, i < l.length → (bytesRow (bs l) (grownCap w l.length 0 5))[i]? = some (.int .u8 ((l.getD i 0).toNat : Int)) := fun i hi => by
    rw [bytesRow_at (bs l) (grownCap w l.length 0 5) i (by simpa using hi)]
    simp [List.getD, hi]
  refine ⟨_, (bytesRow (bs l) (grownCap w l.length 0 5)).size, _, h, ⟨_, heap_new w.drew _, ?_, hb⟩, ((Below.refl _ w).drew).alloc (Nat.le_refl _) _, by simp⟩
  rcases Nat.eq_zero_or_pos l.length with h0 | h0
  · omega
  · have := (Array.getElem?_eq_some_iff.1 (hb (l.length - 1) (by omega))).1
    omega
def upL (l : List UInt8) : List UInt8 := l.map upB
theorem up_step (l : List UInt8) (k : Nat) (hk : k < l.length) (c : UInt8) (hc : l.getD k 0 = c) : (upL (l.take k) ++ l.drop k).set k (upB c) = upL (l.take (k + 1)) ++ l.drop (k + 1) := by
  have e : l[k]? = some c := by rw [← hc]; simp [List.getD, hk]
  have e2 : l[k] = c := (List.getElem?_eq_some_iff.1 e).2
  rw [List.drop_eq_getElem_cons hk, e2, List.take_add_one, e]
  have hl : (upL (l.take k)).length = k := by simp [upL]; omega
  rw [List.set_append_right _ _ (by omega), hl, Nat.sub_self, List.set_cons_zero]
  simp [upL]
theorem up_at (l : List UInt8) (k : Nat) (hk : k < l.length) : (upL (l.take k) ++ l.drop k).getD k 0 = l.getD k 0 := by
  have hl : (upL (l.take k)).length = k := by simp [upL]; omega
  simp only [List.getD]
  rw [List.getElem?_append_right (by omega), hl, Nat.sub_self, List.getElem?_drop]
  simp
theorem up_same (l : List UInt8) (k : Nat) (hk : k < l.length) (c : UInt8) (hc : l.getD k 0 = c) (hu : upB c = c) : upL (l.take (k + 1)) ++ l.drop (k + 1) = upL (l.take k) ++ l.drop k := by
  have e : l[k]? = some c := by rw [← hc]; simp [List.getD, hk]
  have e2 : l[k] = c := (List.getElem?_eq_some_iff.1 e).2
  rw [List.take_add_one, e, List.drop_eq_getElem_cons hk, e2]
  simp [upL, hu]
theorem below_set {B g : Nat} {w w' : World} (h : Below B w w') (hg : B ≤ g) (i : Nat) (v : Value) : Below B w (w'.setCell ⟨g, i, none⟩ v) :=
  ⟨h.os, h.tape, h.output, by simpa [World.setCell] using h.size, fun k hk => (Below.heap_setCell _ _ _ _ (by simp; omega)).trans (h.block k hk)⟩
theorem up_len (l : List UInt8) (k : Nat) : (upL (l.take k) ++ l.drop k).length = l.length := by simp [upL]; omega

set_option maxRecDepth 100000 in
set_option maxHeartbeats 1000000 in
theorem large_any (l : List UInt8) (w : World) (hl : l.length ≤ 1099511627776) : Calls Tryz.prog 15 #[.string (bs l)] w fun e w' => e = .returned (.string (bs (upL l))) ∧ Below w.heap.size w w' := by
  obtain ⟨cap, z, w2, hconv, hbuf, hb2, hlt2⟩ := to_buf l w
  obtain ⟨g, hg⟩ : ∃ g, w.heap.size = g := ⟨_, rfl⟩
  rw [hg] at hconv hbuf
  go_enter Tryz.func15, Tryz.ntmps15
  go_wp2
  clear hconv
  go_loopw [10] (fun i wr => ∃ k : Nat, k ≤ l.length ∧ i = .int .i64 k ∧ BufAt wr g z (upL (l.take k) ++ l.drop k) ∧ Below w.heap.size w wr) (fun i _ => l.length - (intOf i).toNat)
  case atStart => exact ⟨0, Nat.zero_le _, rfl, by simpa [upL] using hbuf, hb2⟩
  case round =>
    obtain ⟨k, hk, rfl, hbuf, hB⟩ := hrel
    by_cases hlt : k < l.length
    · obtain ⟨hck, hfk⟩ := hbuf.cell (i := k) (by rw [up_len]; exact hlt)
      rw [up_at l k hlt] at hck
      obtain ⟨c, hc⟩ : ∃ c, l.getD k 0 = c := ⟨_, rfl⟩
      rw [hc] at hck
      have hst := up_step l k hlt c hc
      have HST := Lib.hid hst
      have hlt' : (k : Int) < l.length := by omega
      have HC' := Lib.hid hc
      clear hc hst
      by_cases ho : 97 ≤ c.toNat ∧ c.toNat ≤ 122
      · obtain ⟨o1, o2⟩ := ho
        have hset := hbuf.set (i := k) (by rw [up_len]; exact hlt) (upB c) ((c.toNat : Int) - 32) (upB_yes o1 o2).symm
        rw [HST.out] at hset
        have p1 : (97 : Int) ≤ c.toNat := by omega
        have p2 : (c.toNat : Int) ≤ 122 := by omega
        have HS := Lib.hid hset
        clear hset hbuf o1 o2
        go_wp2
        go_roundw
        case rel =>
          refine ⟨k + 1, by omega, by go_num, ?_, ?_⟩
          · rw [show (c.toNat : Int) - 97 + 65 = (c.toNat : Int) - 32 by omega]
            exact HS.out
          · exact below_set hB (by omega) _ _
        case measure => simp [intOf]; omega
      · have hu : upB c = c := by unfold upB; rw [if_neg ho]
        have hsame := up_same l k hlt c HC'.out hu
        rw [← hsame] at hbuf
        have HB := Lib.hid hbuf
        have ho' : (c.toNat : Int) < 97 ∨ 97 ≤ (c.toNat : Int) ∧ 122 < (c.toNat : Int) := by omega
        clear hsame hbuf ho hu
        rcases ho' with ho | ⟨ho, ho'⟩
        all_goals
          go_wp2
          go_roundw
          case rel => exact ⟨k + 1, by omega, by go_num, HB.out, hB⟩
          case measure => simp [intOf]; omega
    · obtain rfl : k = l.length := by omega
      rw [List.take_length, List.drop_length, List.append_nil] at hbuf
      have hlen : (upL l).length = l.length := by simp [upL]
      have hv : BytesAt wr (.slice (some ⟨g, 0, none⟩) l.length cap) (upL l) := by
        refine Or.inr ⟨g, 0, cap, by rw [hlen], fun i hi => ?_⟩
        rw [Nat.zero_add]
        exact (hbuf.cell hi).1
      have hcv := convert_bytes hv
      clear hv hlen hbuf
      go_wp2
      go_ret
      exact ⟨rfl, hB⟩

end Go.Proofs.YtgkbigbekmkobaaGreatDoor
