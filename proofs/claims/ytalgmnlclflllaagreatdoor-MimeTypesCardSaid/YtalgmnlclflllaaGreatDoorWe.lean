/- Texts of one walk, merged: XBu XLw XIs XIf XIt XSm XSn. -/
import Derived.Test.YtalgmnlclflllaaGreatDoorWd
import Derived.Outline
import Derived.BigRegion
import Derived.Deep.RegionHeld3
import Derived.Deep.CutBlock
import Derived.Deep.DeepCutAuto
import Derived.RangeFuncFrom
import Derived.LoopTactic

/- A buffer of bytes: []byte(s) that is written into. -/
set_option linter.unusedVariables false
set_option linter.unusedSimpArgs false
section
set_option linter.unusedVariables false
set_option linter.unusedSimpArgs false
namespace Go.Proofs.YtalgmnlclflllaaGreatDoor
open Go.RowKit

/-- a buffer of bytes -/
def BufAt (w : World) (g z : Nat) (l : List UInt8) : Prop := ∃ cs, w.heap[g]? = some (.cells cs 5 (z, z + 1)) ∧ l.length ≤ z ∧ ∀ i, i < l.length → cs[i]? = some (.int .u8 ((l.getD i 0).toNat : Int))
theorem BufAt.cell {w : World} {g z i : Nat} {l : List UInt8} (h : BufAt w g z l) (hi : i < l.length) : w.cell? ⟨g, i, none⟩ = some (.int .u8 ((l.getD i 0).toNat : Int)) ∧ w.frozen? ⟨g, i, none⟩ = false := by
  obtain ⟨cs, h1, h2, h3⟩ := h
  refine ⟨by simp [World.cell?, h1, h3 i hi], ?_⟩
  simp [World.frozen?, h1]
  omega
theorem BufAt.set {w : World} {g z i : Nat} {l : List UInt8} (h : BufAt w g z l) (hi : i < l.length) (c : UInt8) (k : Int) (hk : k = (c.toNat : Int)) : BufAt (w.setCell ⟨g, i, none⟩ (.int .u8 k)) g z (l.set i c) := by
  subst hk
  obtain ⟨cs, h1, h2, h3⟩ := h
  have hics : i < cs.size := (Array.getElem?_eq_some_iff.1 (h3 i hi)).1
  refine ⟨cs.setIfInBounds i (.int .u8 (c.toNat : Int)), by simp [World.setCell, Array.getElem?_modify, h1], by simpa using h2, fun j hj => ?_⟩
  rw [List.length_set] at hj
  rw [Array.getElem?_setIfInBounds]
  by_cases hij : i = j
  · subst hij
    simp [hics, List.getD, hi]
  · rw [if_neg hij, h3 j hj]
    simp [List.getD, hij]
theorem to_buf (l : List UInt8) (w : World) : ∃ (cap z : Nat) (w' : World), (convert 9 68 (.string (bs l))).run Tryz.prog w = .ok (.slice (some ⟨w.heap.size, 0, none⟩) l.length cap) w' ∧
    BufAt w' w.heap.size z l ∧ Below w.heap.size w w' ∧ w.heap.size < w'.heap.size := by
  have h := run_bytes_of_string (P := Tryz.prog) w 9 68 5 (bs l) Tryz.underlying9 Tryz.underlying68 Tryz.underlying5
  rw [bs_size] at h
  have hb : ∀ i, i < l.length → (bytesRow (bs l) (grownCap w l.length 0 5))[i]? = some (.int .u8 ((l.getD i 0).toNat : Int)) := fun i hi => by
    rw [bytesRow_at (bs l) (grownCap w l.length 0 5) i (by simpa using hi)]
    simp [List.getD, hi]
  refine ⟨_, (bytesRow (bs l) (grownCap w l.length 0 5)).size, _, h, ⟨_, heap_new w.drew _, ?_, hb⟩, ((Below.refl _ w).drew).alloc (Nat.le_refl _) _, by simp⟩
  rcases Nat.eq_zero_or_pos l.length with h0 | h0
  · omega
  · have := (Array.getElem?_eq_some_iff.1 (hb (l.length - 1) (by omega))).1
    omega
theorem below_set {B g : Nat} {w w' : World} (h : Below B w w') (hg : B ≤ g) (i : Nat) (v : Value) : Below B w (w'.setCell ⟨g, i, none⟩ v) :=
  ⟨h.os, h.tape, h.output, by simpa [World.setCell] using h.size, fun k hk => (Below.heap_setCell _ _ _ _ (by simp; omega)).trans (h.block k hk)⟩

end Go.Proofs.YtalgmnlclflllaaGreatDoor
end

/- Small letters, byte by byte in a buffer (plain). -/
set_option linter.unusedVariables false
set_option linter.unusedSimpArgs false
section
namespace Go.Proofs.YtalgmnlclflllaaGreatDoor
open Go.RowKit

theorem low_step (l : List UInt8) (k : Nat) (hk : k < l.length) (c : UInt8) (hc : l.getD k 0 = c) : (lowL (l.take k) ++ l.drop k).set k (lowB c) = lowL (l.take (k + 1)) ++ l.drop (k + 1) := by
  have e : l[k]? = some c := by rw [← hc]; simp [List.getD, hk]
  have e2 : l[k] = c := (List.getElem?_eq_some_iff.1 e).2
  rw [List.drop_eq_getElem_cons hk, e2, List.take_add_one, e]
  have hl : (lowL (l.take k)).length = k := by simp [lowL]; omega
  rw [List.set_append_right _ _ (by omega), hl, Nat.sub_self, List.set_cons_zero]
  simp [lowL]
theorem low_at (l : List UInt8) (k : Nat) (hk : k < l.length) : (lowL (l.take k) ++ l.drop k).getD k 0 = l.getD k 0 := by
  have hl : (lowL (l.take k)).length = k := by simp [lowL]; omega
  simp only [List.getD]
  rw [List.getElem?_append_right (by omega), hl, Nat.sub_self, List.getElem?_drop]
  simp
theorem low_same (l : List UInt8) (k : Nat) (hk : k < l.length) (c : UInt8) (hc : l.getD k 0 = c) (hu : lowB c = c) : lowL (l.take (k + 1)) ++ l.drop (k + 1) = lowL (l.take k) ++ l.drop k := by
  have e : l[k]? = some c := by rw [← hc]; simp [List.getD, hk]
  have e2 : l[k] = c := (List.getElem?_eq_some_iff.1 e).2
  rw [List.take_add_one, e, List.drop_eq_getElem_cons hk, e2]
  simp [lowL, hu]
theorem low_len (l : List UInt8) (k : Nat) : (lowL (l.take k) ++ l.drop k).length = l.length := by simp [lowL]; omega
theorem lowB_num {c : UInt8} (h1 : 65 ≤ c.toNat) (h2 : c.toNat ≤ 90) : ((lowB c).toNat : Int) = (c.toNat : Int) + 32 := by
  rw [lowB_yes h1 h2]; simp

end Go.Proofs.YtalgmnlclflllaaGreatDoor
end

/- mime.small: the walk. -/
set_option linter.unusedVariables false
set_option linter.unusedSimpArgs false
section
namespace Go.Proofs.YtalgmnlclflllaaGreatDoor
open Go.RowKit

set_option maxRecDepth 100000 in
set_option maxHeartbeats 1000000 in
theorem mimeSmall_any (l : List UInt8) (w : World) (hl : l.length ≤ 1099511627776) : Calls Tryz.prog 48 #[.string (bs l)] w fun e w' => e = .returned (.string (bs (lowL l))) ∧ Below w.heap.size w w' := by
  obtain ⟨cap, z, w2, hconv, hbuf, hb2, hlt2⟩ := to_buf l w
  obtain ⟨g, hg⟩ : ∃ g, w.heap.size = g := ⟨_, rfl⟩
  rw [hg] at hconv hbuf
  go_enter Tryz.func48, Tryz.ntmps48
  go_wp2
  clear hconv
  go_loopw [10] (fun i wr => ∃ k : Nat, k ≤ l.length ∧ i = .int .i64 k ∧ BufAt wr g z (lowL (l.take k) ++ l.drop k) ∧ Below w.heap.size w wr) (fun i _ => l.length - (intOf i).toNat)
  case atStart => exact ⟨0, Nat.zero_le _, rfl, by simpa [lowL] using hbuf, hb2⟩
  case round =>
    obtain ⟨k, hk, rfl, hbuf, hB⟩ := hrel
    by_cases hlt : k < l.length
    · obtain ⟨hck, hfk⟩ := hbuf.cell (i := k) (by rw [low_len]; exact hlt)
      rw [low_at l k hlt] at hck
      obtain ⟨c, hc⟩ : ∃ c, l.getD k 0 = c := ⟨_, rfl⟩
      rw [hc] at hck
      have hst := low_step l k hlt c hc
      have HST := Lib.hid hst
      have hlt' : (k : Int) < l.length := by omega
      have HC' := Lib.hid hc
      clear hc hst
      by_cases ho : 65 ≤ c.toNat ∧ c.toNat ≤ 90
      · obtain ⟨o1, o2⟩ := ho
        have hset := hbuf.set (i := k) (by rw [low_len]; exact hlt) (lowB c) ((c.toNat : Int) + 32) (lowB_num o1 o2).symm
        rw [HST.out] at hset
        have p1 : (65 : Int) ≤ c.toNat := by omega
        have p2 : (c.toNat : Int) ≤ 90 := by omega
        have HS := Lib.hid hset
        clear hset hbuf o1 o2
        go_wp2
        go_roundw
        case rel =>
          refine ⟨k + 1, by omega, by go_num, ?_, ?_⟩
          · rw [show (c.toNat : Int) + 97 - 65 = (c.toNat : Int) + 32 by omega]
            exact HS.out
          · exact below_set hB (by omega) _ _
        case measure => simp [intOf]; omega
      · have hu : lowB c = c := lowB_no ho
        have hsame := low_same l k hlt c HC'.out hu
        rw [← hsame] at hbuf
        have HB := Lib.hid hbuf
        have ho' : (c.toNat : Int) < 65 ∨ 65 ≤ (c.toNat : Int) ∧ 90 < (c.toNat : Int) := by omega
        clear hsame hbuf ho hu
        rcases ho' with ho | ⟨ho, ho'⟩
        all_goals
          go_wp2
          go_roundw
          case rel => exact ⟨k + 1, by omega, by go_num, HB.out, hB⟩
          case measure => simp [intOf]; omega
    · obtain rfl : k = l.length := by omega
      rw [List.take_length, List.drop_length, List.append_nil] at hbuf
      have hlen : (lowL l).length = l.length := by simp [lowL]
      have hv : BytesAt wr (.slice (some ⟨g, 0, none⟩) l.length cap) (lowL l) := by
        refine Or.inr ⟨g, 0, cap, by rw [hlen], fun i hi => ?_⟩
        rw [Nat.zero_add]
        exact (hbuf.cell hi).1
      have hcv := convert_bytes hv
      clear hv hlen hbuf
      go_wp2
      go_ret
      exact ⟨rfl, hB⟩

end Go.Proofs.YtalgmnlclflllaaGreatDoor
end

/- mime.Type: what it keeps; the walk. -/
set_option linter.unusedVariables false
set_option linter.unusedSimpArgs false
section
namespace Go.Proofs.YtalgmnlclflllaaGreatDoor
open Go.RowKit Go

/-- Type's results in their cells, its scanner -/
structure TySt (w : World) (g : Nat) (x0 x1 x2 x3 : Value) (l : List UInt8) (a : Addr) : Prop where
  v0 : VarAt w g x0
  v1 : VarAt w (g + 1) x1
  v2 : VarAt w (g + 2) x2
  v3 : VarAt w (g + 3) x3
  sc : ScM w (g + 4) l
  er : w.cell? ⟨0, 0, none⟩ = some (errV a)
  lt : 0 < g
theorem TySt.upd {w w' : World} {g : Nat} {x0 x1 x2 x3 : Value} {l l' : List UInt8} {a : Addr} (h : TySt w g x0 x1 x2 x3 l a) (hu : Upd (g + 4) w w') (hk : ScM w' (g + 4) l') : TySt w' g x0 x1 x2 x3 l' a :=
  ⟨h.v0.upd hu (by omega), h.v1.upd hu (by omega), h.v2.upd hu (by omega), h.v3.upd hu (by omega), hk, upd_cell hu (by have := h.lt; omega) h.er, h.lt⟩
theorem TySt.below {w w' : World} {g : Nat} {x0 x1 x2 x3 : Value} {l : List UInt8} {a : Addr} (h : TySt w g x0 x1 x2 x3 l a) (hb : Below w.heap.size w w') : TySt w' g x0 x1 x2 x3 l a :=
  ⟨h.v0.below hb, h.v1.below hb, h.v2.below hb, h.v3.below hb, scm_below h.sc hb, (hb.cell (p := ⟨0, 0, none⟩) (cell_lt h.er)).trans h.er, h.lt⟩
theorem VarAt.set {w : World} {b : Nat} {x : Value} (h : VarAt w b x) (y : Value) : VarAt (w.setCell ⟨b, 0, none⟩ y) b y := by
  obtain ⟨h1, h2⟩ := h
  refine ⟨by simp [World.cell?_setCell_same, h1], ?_⟩
  rw [← h2]
  simp only [World.frozen?, World.setCell, Array.getElem?_modify]
  simp
  cases w.heap[b]? with
  | none => rfl
  | some o => cases o <;> rfl
theorem VarAt.set_other {w : World} {b c : Nat} {x y : Value} (h : VarAt w b x) (hn : b ≠ c) : VarAt (w.setCell ⟨c, 0, none⟩ y) b x := h.keep (Below.heap_setCell _ _ _ _ (by simpa using hn))
theorem TySt.set0 {w : World} {g : Nat} {x0 x1 x2 x3 : Value} {l : List UInt8} {a : Addr} (h : TySt w g x0 x1 x2 x3 l a) (y : Value) : TySt (w.setCell ⟨g, 0, none⟩ y) g y x1 x2 x3 l a := by
  have hl := h.lt
  exact ⟨h.v0.set y, h.v1.set_other (by omega), h.v2.set_other (by omega), h.v3.set_other (by omega), (Below.heap_setCell _ _ _ _ (by simp)).trans h.sc, (World.cell?_setCell_other _ _ _ _ (by intro e; have h := congrArg Addr.block e; simp only at h; omega)).trans h.er, hl⟩
theorem TySt.set1 {w : World} {g : Nat} {x0 x1 x2 x3 : Value} {l : List UInt8} {a : Addr} (h : TySt w g x0 x1 x2 x3 l a) (y : Value) : TySt (w.setCell ⟨g + 1, 0, none⟩ y) g x0 y x2 x3 l a := by
  have hl := h.lt
  exact ⟨h.v0.set_other (by omega), h.v1.set y, h.v2.set_other (by omega), h.v3.set_other (by omega), (Below.heap_setCell _ _ _ _ (by simp)).trans h.sc, (World.cell?_setCell_other _ _ _ _ (by intro e; have h := congrArg Addr.block e; simp only at h; omega)).trans h.er, hl⟩
theorem TySt.set2 {w : World} {g : Nat} {x0 x1 x2 x3 : Value} {l : List UInt8} {a : Addr} (h : TySt w g x0 x1 x2 x3 l a) (y : Value) : TySt (w.setCell ⟨g + 2, 0, none⟩ y) g x0 x1 y x3 l a := by
  have hl := h.lt
  exact ⟨h.v0.set_other (by omega), h.v1.set_other (by omega), h.v2.set y, h.v3.set_other (by omega), (Below.heap_setCell _ _ _ _ (by simp)).trans h.sc, (World.cell?_setCell_other _ _ _ _ (by intro e; have h := congrArg Addr.block e; simp only at h; omega)).trans h.er, hl⟩
theorem TySt.set3 {w : World} {g : Nat} {x0 x1 x2 x3 : Value} {l : List UInt8} {a : Addr} (h : TySt w g x0 x1 x2 x3 l a) (y : Value) : TySt (w.setCell ⟨g + 3, 0, none⟩ y) g x0 x1 x2 y l a := by
  have hl := h.lt
  exact ⟨h.v0.set_other (by omega), h.v1.set_other (by omega), h.v2.set_other (by omega), h.v3.set y, (Below.heap_setCell _ _ _ _ (by simp)).trans h.sc, (World.cell?_setCell_other _ _ _ _ (by intro e; have h := congrArg Addr.block e; simp only at h; omega)).trans h.er, hl⟩
theorem TySt.low {w w' : World} {g : Nat} {x0 x1 x2 x3 : Value} {l : List UInt8} {a : Addr} (h : TySt w g x0 x1 x2 x3 l a) (hb : ∀ k, k < g + 5 → w'.heap[k]? = w.heap[k]?) : TySt w' g x0 x1 x2 x3 l a := by
  have hl := h.lt
  refine ⟨h.v0.keep (hb _ (by omega)), h.v1.keep (hb _ (by omega)), h.v2.keep (hb _ (by omega)), h.v3.keep (hb _ (by omega)), (hb _ (by omega)).trans h.sc, ?_, hl⟩
  rw [← h.er]
  have := hb 0 (by omega)
  simp only [World.cell?, this]
theorem OwnPm.setv {w : World} {g k : Nat} {pv : Value} {acc : List Prm} (h : OwnPm w (g + 5) pv acc) (hk : k ≤ 4) (y : Value) : OwnPm (w.setCell ⟨g + k, 0, none⟩ y) (g + 5) pv acc :=
  h.later fun j hj => Below.heap_setCell _ _ _ _ (by have := (World.ownsRow.lt h j hj).1; simp only; omega)
theorem TySt.new (w : World) (l : List UInt8) (a : Addr) (hE : w.cell? ⟨0, 0, none⟩ = some (errV a)) :
    TySt (((((w.alloc (.cells #[.string ⟨#[]⟩] 9)).alloc (.cells #[.string ⟨#[]⟩] 9)).alloc (.cells #[.slice none 0 0] 23)).alloc (.cells #[.nilIface] 44)).alloc (.cells #[.string (bs l)] 79)) w.heap.size (.string ⟨#[]⟩) (.string ⟨#[]⟩) (.slice none 0 0) .nilIface l a := by
  have gen : ∀ (u : World) (b : Nat) (v : Value) (t : TypeId), u.heap[b]? = some (.cells #[v] t) → VarAt u b v := fun u b v t h => by
    refine ⟨?_, ?_⟩ <;> simp [World.cell?, World.frozen?, h]
  have key : ∀ (u : World) (v : Value) (t : TypeId), VarAt (u.alloc (.cells #[v] t)) u.heap.size v := fun u v t => gen _ _ v t (heap_new u (.cells #[v] t))
  have up : ∀ (u : World) (b : Nat) (v : Value) (o : Obj), VarAt u b v → VarAt (u.alloc o) b v := fun u b v o h => h.below ((Below.refl _ _).alloc (Nat.le_refl _) _)
  have h0 := key w (.string ⟨#[]⟩) 9
  have h1 := key (w.alloc (.cells #[.string ⟨#[]⟩] 9)) (.string ⟨#[]⟩) 9
  have h2 := key ((w.alloc (.cells #[.string ⟨#[]⟩] 9)).alloc (.cells #[.string ⟨#[]⟩] 9)) (.slice none 0 0) 23
  have h3 := key (((w.alloc (.cells #[.string ⟨#[]⟩] 9)).alloc (.cells #[.string ⟨#[]⟩] 9)).alloc (.cells #[.slice none 0 0] 23)) .nilIface 44
  have h4 := heap_new ((((w.alloc (.cells #[.string ⟨#[]⟩] 9)).alloc (.cells #[.string ⟨#[]⟩] 9)).alloc (.cells #[.slice none 0 0] 23)).alloc (.cells #[.nilIface] 44)) (.cells #[.string (bs l)] 79)
  simp only [size_alloc] at h1 h2 h3 h4
  refine ⟨up _ _ _ _ (up _ _ _ _ (up _ _ _ _ (up _ _ _ _ h0))), up _ _ _ _ (up _ _ _ _ (up _ _ _ _ h1)), up _ _ _ _ (up _ _ _ _ h2), up _ _ _ _ h3, h4, cell_alloc (cell_alloc (cell_alloc (cell_alloc (cell_alloc hE _) _) _) _) _, cell_lt hE⟩

/-- what Type answers -/
def TypeM (B : Nat) (R : Option (List UInt8 × List UInt8 × List Prm)) (a : Addr) (w : World) (e : Ending) (w' : World) : Prop :=
  (∃ t s ps pv, R = some (t, s, ps) ∧ e = .returned (.tuple #[.string (bs t), .string (bs s), pv, .nilIface]) ∧ OwnPm w' B pv ps ∧ Below B w w') ∨ (R = none ∧ e = .returned (.tuple #[.string ⟨#[]⟩, .string ⟨#[]⟩, .slice none 0 0, errV a]) ∧ Below B w w')

theorem isC_len (c : UInt8) (l : List UInt8) : (isC c l).2.length ≤ l.length ∧ ((isC c l).1 = true → (isC c l).2.length < l.length) := by
  have h := skipB_len l
  unfold isC
  split
  · rename_i hs; simp
  · rename_i d r hs
    rw [hs] at h
    simp only [List.length_cons] at h
    by_cases hd : d = c
    · rw [if_pos hd]; exact ⟨by show r.length ≤ _; omega, fun _ => by show r.length < _; omega⟩
    · rw [if_neg hd]; exact ⟨by show (d :: r).length ≤ _; simp; omega, fun h => by cases h⟩
theorem tokP_len {l t r : List UInt8} (h : tokP l = some (t, r)) : t.length + r.length ≤ l.length := by
  have hs := skipB_len l
  unfold tokP at h
  split at h
  · cases h
  · injection h with h
    have h1 := congrArg (fun q => q.1) h
    have h2 := congrArg (fun q => q.2) h
    simp only at h1 h2
    rw [← h1, ← h2]
    have : ((skipB l).takeWhile tokC ++ (skipB l).dropWhile tokC).length = (skipB l).length := by rw [List.takeWhile_append_dropWhile]
    rw [List.length_append] at this
    omega
theorem qGo_lens : ∀ (l acc t r : List UInt8), qGo acc l = some (t, r) → t.length + r.length ≤ acc.length + l.length
  | [], _, _, _, h => by cases h
  | [c], acc, t, r, h => by
    unfold qGo at h
    split at h
    · cases h; simp
    · split at h
      · cases h
      · cases h
  | c :: d :: r2, acc, t, r, h => by
    unfold qGo at h
    split at h
    · cases h; simp
    · split at h
      · have := qGo_lens r2 _ t r h
        simp at this ⊢; omega
      · have := qGo_lens (d :: r2) _ t r h
        simp at this ⊢; omega
theorem valP_len {l t r : List UInt8} (h : valP l = some (t, r)) : t.length + r.length ≤ l.length := by
  have hs := (isC_len 34 l).1
  unfold valP at h
  split at h
  · have := qGo_lens _ _ _ _ h
    simp at this
    omega
  · have := tokP_len h
    omega

/-- Type's four results in four cells -/
def Res4 (fn : Func) (T : Array Value) (g : Nat) : Prop := ∀ (w : World) (v0 v1 v2 v3 : Value), w.cell? ⟨g, 0, none⟩ = some v0 → w.cell? ⟨g + 1, 0, none⟩ = some v1 → w.cell? ⟨g + 2, 0, none⟩ = some v2 → w.cell? ⟨g + 3, 0, none⟩ = some v3 → (results fn T).run Tryz.prog w = .ok (.tuple #[v0, v1, v2, v3]) w
def dfrM (g : Nat) : Deferred := { target := .fn (.func 47) #[.pointer (some ⟨g, 0, none⟩), .pointer (some ⟨g + 1, 0, none⟩), .pointer (some ⟨g + 2, 0, none⟩), .pointer (some ⟨g + 3, 0, none⟩)], args := #[] }
theorem type_bad {fn : Func} {T : Array Value} {g : Nat} {a : Addr} {w w0 w1 : World} {x0 x1 x2 x3 : Value} {l : List UInt8} (hT : Res4 fn T g) (st : TySt w0 g x0 x1 x2 x3 l a) (hB : Below g w w0) (hu : Upd (g + 4) w0 w1) :
    Leaves Tryz.prog fn T (TypeM g none a w) [dfrM g] (.panicking [{ v := .iface 75 (.agg #[]), recovered := false }]) w1 := by
  have hl := st.lt
  have hz := st.v0.lt
  refine leaves_cons (f := 47) (args := #[.pointer (some ⟨g, 0, none⟩), .pointer (some ⟨g + 1, 0, none⟩), .pointer (some ⟨g + 2, 0, none⟩), .pointer (some ⟨g + 3, 0, none⟩)]) (by simp) (by simp [go_sem]) ?_
  refine (catchM_bad g x0 x1 x2 x3 a [] w1 (st.v0.upd hu (by omega)) (st.v1.upd hu (by omega)) (st.v2.upd hu (by omega)) (st.v3.upd hu (by omega)) (upd_cell hu (by omega) st.er) hl).mono ?_
  rintro e u' w9 ⟨rfl, rfl, ⟨c0, c1, c2, c3⟩, hb9⟩
  simp only [settle]
  exact ⟨_, hT w9 _ _ _ _ c0 c1 c2 c3, .inr ⟨rfl, rfl, hB.trans ((hu.below (by omega) (by omega)).trans hb9)⟩⟩
theorem type_good {fn : Func} {T : Array Value} {g : Nat} {a : Addr} {w w1 : World} {t s l : List UInt8} {ps : List Prm} {pv : Value} (hT : Res4 fn T g) (st : TySt w1 g (.string (bs t)) (.string (bs s)) pv .nilIface l a) (hB : Below g w w1) (hp : OwnPm w1 g pv ps) :
    Leaves Tryz.prog fn T (TypeM g (some (t, s, ps)) a w) [dfrM g] .returning w1 := by
  refine leaves_cons (f := 47) (args := #[.pointer (some ⟨g, 0, none⟩), .pointer (some ⟨g + 1, 0, none⟩), .pointer (some ⟨g + 2, 0, none⟩), .pointer (some ⟨g + 3, 0, none⟩)]) (by simp) (by simp [go_sem]) ?_
  refine (catchM_idle _ _ _ _ w1).mono ?_
  rintro e u' w9 ⟨rfl, rfl, rfl⟩
  simp only [settle]
  exact ⟨_, hT _ _ _ _ _ st.v0.1 st.v1.1 st.v2.1 st.v3.1, .inl ⟨t, s, ps, pv, rfl, rfl, hp, hB⟩⟩

def Four (T : Array Value) (g : Nat) : Prop := T.getD 2 undef = .pointer (some ⟨g, 0, none⟩) ∧ T.getD 3 undef = .pointer (some ⟨g + 1, 0, none⟩) ∧ T.getD 4 undef = .pointer (some ⟨g + 2, 0, none⟩) ∧ T.getD 5 undef = .pointer (some ⟨g + 3, 0, none⟩)
theorem Four.res {T : Array Value} {g : Nat} (h : Four T g) : Res4 Tryz.f26 T g := by
  obtain ⟨h2, h3, h4, h5⟩ := h
  rw [Array.getD_eq_getD_getElem?] at h2 h3 h4 h5
  intro w9 v0 v1 v2 v3 c0 c1 c2 c3
  simp [results, Tryz.results26, h2, h3, h4, h5, go_sem, c0, c1, c2, c3]
/-- a piece of code that ends by the scanner's panic -/
def PanQ (g : Nat) (Z : World → Prop) : Exit → Act → World → Prop := fun e a w => match e with
  | .panic c => c = [{ v := .iface 75 (.agg #[]), recovered := false }] ∧ Four a.tmps g ∧ a.defers = [dfrM g] ∧ Z w
  | _ => False
theorem panq_take {g d : Nat} {Z : World → Prop} {c : List PanicEntry} {a : Act} {v : Value} {w : World} (hd : 5 < d) (h : PanQ g Z (.panic c) (a.put (some d) v) w) : PanQ g Z (.panic c) a w := by
  obtain ⟨h1, ⟨h2, h3, h4, h5⟩, h6, h7⟩ := h
  have K : ∀ j, j ≤ 5 → (a.put (some d) v).tmps.getD j undef = a.tmps.getD j undef := fun j hj => by
    have : d ≠ j := by omega
    simp [Act.put, Array.getD_eq_getD_getElem?, Array.getElem?_setIfInBounds, this]
  rw [K _ (by decide)] at h2 h3 h4 h5
  exact ⟨h1, ⟨h2, h3, h4, h5⟩, h6, h7⟩
/-- a piece of code that does not panic -/
def NoPan (Q : Exit → Act → World → Prop) : Exit → Act → World → Prop := fun e a w => match e with
  | .panic _ => False
  | e => Q e a w
theorem NoPan.out {Q : Exit → Act → World → Prop} : ∀ e a w, NoPan Q e a w → Q e a w := fun e a w h => by
  cases e <;> first | exact h | exact h.elim

set_option maxRecDepth 100000 in
set_option maxHeartbeats 4000000 in
theorem type_at (g : Nat) (l : List UInt8) (a : Addr) (w : World) (hg : w.heap.size = g) (hl : l.length ≤ 100000000) (hE : w.cell? ⟨0, 0, none⟩ = some (errV a)) : Calls Tryz.prog 26 #[.string (bs l)] w (TypeM g (typeP l) a w) := by
  have hmf : ∀ (fn : Fn) (first cap : Array Value) (w : World), (Instr.makeFunc fn first cap).run Tryz.prog w = .ok (.func fn first cap) w := fun _ _ _ _ => rfl
  obtain ⟨R, hR⟩ : ∃ R, typeP l = R := ⟨_, rfl⟩
  rw [hR]
  have HR := Lib.hid hR
  have st0 := TySt.new w l a hE
  clear hR
  obtain ⟨i0, hi0, hy0, hy1, hy2⟩ := info_parts info_prm
  go_enter_defers Tryz.func26, Tryz.ntmps26
  go_wp2_with fail
  simp only [Nat.add_assoc, Nat.reduceAdd]
  obtain ⟨W0, hW0⟩ : ∃ W0, ((((w.alloc (.cells #[.string ⟨#[]⟩] 9)).alloc (.cells #[.string ⟨#[]⟩] 9)).alloc (.cells #[.slice none 0 0] 23)).alloc (.cells #[.nilIface] 44)).alloc (.cells #[.string (bs l)] 79) = W0 := ⟨_, rfl⟩
  rw [hW0] at st0 ⊢
  have hB0 : Below w.heap.size w W0 := by
    rw [← hW0]
    exact (((((Below.refl _ _).alloc (Nat.le_refl _) _).alloc (by simp) _).alloc (by simp; omega) _).alloc (by simp; omega) _).alloc (by simp; omega) _
  clear hW0 hE
  rw [hg] at st0 hB0
  have hg0 := st0.v3.lt
  refine (token_any (g + 4) l _ st0.sc (by omega)).mono ?_
  intro e w1 h1
  have hR := HR.out
  unfold typeP at hR
  rcases h1 with ⟨t, r1, ht, rfl, hk1, hu1⟩ | ⟨ht, rfl, hu1⟩
  case inr =>
    rw [ht] at hR
    simp only [Option.bind_none] at hR
    subst hR
    unfold badM
    go_wp2
    refine type_bad ?_ st0 hB0 hu1
    intro w9 v0 v1 v2 v3 c0 c1 c2 c3
    simp [results, Tryz.results26, go_sem, c0, c1, c2, c3]
  have hl1 := tokP_len ht
  rw [ht] at hR
  simp only [Option.bind_some] at hR
  have st1 := st0.upd hu1 hk1
  have hB1 : Below g w w1 := hB0.trans (hu1.below (by omega) (by omega))
  clear hk1 hu1 ht st0 hB0
  go_wp2_with fail
  refine (mimeSmall_any t _ (by omega)).mono ?_
  rintro e w2 ⟨rfl, hb2⟩
  have st2 := st1.below hb2
  have hz1 := st1.v3.lt
  have hB2 := hB1.trans (hb2.mono (by omega))
  obtain ⟨c0, f0⟩ := st2.v0
  go_wp2_with fail
  have st3 := st2.set0 (.string (bs (lowL t)))
  have hB3 := hB2.setCell (p := ⟨g, 0, none⟩) (Nat.le_refl _) (.string (bs (lowL t)))
  obtain ⟨W3, hW3⟩ : ∃ W3, w2.setCell ⟨g, 0, none⟩ (.string (bs (lowL t))) = W3 := ⟨_, rfl⟩
  rw [hW3] at st3 hB3 ⊢
  clear hW3 hb2 hB2 st2 st1 hB1 c0 f0
  refine (isM_any (g + 4) 47 r1 _ st3.sc (by omega)).mono ?_
  rintro e w4 ⟨rfl, hk4, hu4⟩
  have st4 := st3.upd hu4 hk4
  have hz3 := st3.v3.lt
  have hB4 := hB3.trans (hu4.below (by omega) (by omega))
  clear hk4 hu4 st3 hB3
  have hl4 := (isC_len 47 r1).1
  obtain ⟨bb, r2, hq⟩ : ∃ bb r2, isC 47 r1 = (bb, r2) := ⟨_, _, rfl⟩
  rw [hq] at hR st4 hl4 ⊢
  simp only at hR st4 hl4 ⊢
  clear hq
  cases bb with
  | false =>
    simp only [Bool.false_eq_true, if_false] at hR
    subst hR
    go_wp2_with fail
    refine (mustM_no _ _).mono ?_
    rintro e w5 ⟨rfl, rfl⟩
    unfold badM
    go_wp2
    refine type_bad ?_ st4 hB4 (Upd.refl _ _)
    intro w9 v0 v1 v2 v3 c0 c1 c2 c3
    simp [results, Tryz.results26, go_sem, c0, c1, c2, c3]
  | true =>
  simp only [if_true] at hR
  go_wp2_with fail
  refine (mustM_yes _ _).mono ?_
  rintro e w5 ⟨rfl, rfl⟩
  go_wp2_with fail
  refine (token_any (g + 4) r2 _ st4.sc (by omega)).mono ?_
  intro e w6 h6
  rcases h6 with ⟨s, r3, hs, rfl, hk6, hu6⟩ | ⟨hs, rfl, hu6⟩
  case inr =>
    rw [hs] at hR
    simp only [Option.bind_none] at hR
    subst hR
    unfold badM
    go_wp2
    refine type_bad ?_ st4 hB4 hu6
    intro w9 v0 v1 v2 v3 c0 c1 c2 c3
    simp [results, Tryz.results26, go_sem, c0, c1, c2, c3]
  have hl6 := tokP_len hs
  rw [hs] at hR
  simp only [Option.bind_some] at hR
  have st6 := st4.upd hu6 hk6
  have hz4 := st4.v3.lt
  have hB6 : Below g w w6 := hB4.trans (hu6.below (by omega) (by omega))
  clear hk6 hu6 hs st4 hB4
  go_wp2_with fail
  refine (mimeSmall_any s _ (by omega)).mono ?_
  rintro e w7 ⟨rfl, hb7⟩
  have st7 := st6.below hb7
  have hz6 := st6.v3.lt
  have hB7 := hB6.trans (hb7.mono (by omega))
  obtain ⟨c1, f1⟩ := st7.v1
  go_wp2_with fail
  have st8 := st7.set1 (.string (bs (lowL s)))
  have hB8 := hB7.setCell (p := ⟨g + 1, 0, none⟩) (Nat.le_add_right _ _) (.string (bs (lowL s)))
  obtain ⟨W8, hW8⟩ : ∃ W8, w7.setCell ⟨g + 1, 0, none⟩ (.string (bs (lowL s))) = W8 := ⟨_, rfl⟩
  rw [hW8] at st8 hB8 ⊢
  clear hW8 hb7 hB7 st7 st6 hB6 c1 f1
  clear HR
  have HR := Lib.hid hR
  clear hR
  go_loopg [7] (l.length + 1) (fun kq _ wr => ∃ (kk : Nat) (pv : Value) (r : List UInt8) (acc : List Prm), kq = kk ∧ r.length < kk ∧ TySt wr g (.string (bs (lowL t))) (.string (bs (lowL s))) pv .nilIface r a ∧ OwnPm wr (g + 5) pv acc ∧ Below g w wr ∧ Hid (((parP kk acc r).bind fun ps => some (lowL t, lowL s, ps)) = R) ∧ acc.length + r.length ≤ l.length)
  case atStart => exact ⟨_, _, r3, [], rfl, by omega, st8, World.ownsRow_nil _ _ _ _, hB8, HR, by simp; omega⟩
  case round =>
    obtain ⟨kk, pv, r, acc, hkk, hkr, st, hop, hB, hr, hlen⟩ := hrel
    obtain ⟨pa, pc, rfl⟩ := hop.form
    obtain ⟨pv, hpv⟩ : ∃ pv, Value.slice pa acc.length pc = pv := ⟨_, rfl⟩
    rw [hpv] at st hop
    have HPV := Lib.hid hpv
    clear hpv
    go_wp2_with fail
    refine (isM_any (g + 4) 59 r _ st.sc (by omega)).mono ?_
    rintro e v1 ⟨rfl, hk1, hu1⟩
    have st1 := st.upd hu1 hk1
    have hop1 : OwnPm v1 (g + 5) pv acc := hop.later fun k hk => hu1.block k (World.ownsRow.lt hop k hk).2 (by have := (World.ownsRow.lt hop k hk).1; omega)
    have hzr := st.v3.lt
    have hB1 : Below g w v1 := hB.trans (hu1.below (by omega) (by omega))
    have hq1 := isC_len 59 r
    clear hk1 hu1 st hop hB
    have hR := hr.out
    obtain ⟨k2, rfl⟩ : ∃ k2, kk = k2 + 1 := ⟨kk - 1, by omega⟩
    rw [parP] at hR
    obtain ⟨bb, r4, hq⟩ : ∃ bb r4, isC 59 r = (bb, r4) := ⟨_, _, rfl⟩
    rw [hq] at hR st1 hq1 ⊢
    simp only at hR st1 hq1 ⊢
    clear hq hr
    cases bb with
    | false =>
      simp only [Bool.false_eq_true, if_false] at hR
      go_wp2_with fail
      refine (skipM_any (g + 4) r4 _ st1.sc).mono ?_
      rintro e v2 ⟨rfl, hk2, hu2⟩
      have st2 := st1.upd hu2 hk2
      have hop2 : OwnPm v2 (g + 5) pv acc := hop1.later fun k hk => hu2.block k (World.ownsRow.lt hop1 k hk).2 (by have := (World.ownsRow.lt hop1 k hk).1; omega)
      have hz1 := st1.v3.lt
      have hB2 : Below g w v2 := hB1.trans (hu2.below (by omega) (by omega))
      clear hk2 hu2 st1 hop1 hB1
      obtain ⟨s0, hs0⟩ : ∃ s0, skipB r4 = s0 := ⟨_, rfl⟩
      rw [hs0] at hR st2
      clear hs0
      obtain ⟨c4, f4⟩ := scm_cells st2.sc
      cases s0 with
      | nil =>
        simp only [if_true, Option.bind_some] at hR
        subst hR
        replace c4 : v2.cell? ⟨g + 4, 0, none⟩ = some (.string ⟨#[]⟩) := c4
        go_wp2_with fail
        refine (mustM_yes _ _).mono ?_
        rintro e w5 ⟨rfl, rfl⟩
        obtain ⟨c0, f0⟩ := st2.v0
        obtain ⟨c1, f1⟩ := st2.v1
        obtain ⟨c2, f2⟩ := st2.v2
        obtain ⟨c3, f3⟩ := st2.v3
        have hpv := HPV.out
        subst hpv
        go_wp2_with fail
        go_region
        all_goals
          go_wp2
          refine type_good (l := []) ?_ ((((st2.low (w' := w5.drew) (fun _ _ => rfl)).set0 (.string (bs (lowL t)))).set1 (.string (bs (lowL s)))).set2 (.slice pa acc.length pc) |>.set3 .nilIface) ?_ ?_
          · exact Four.res ⟨rfl, rfl, rfl, rfl⟩
          · exact ((((below_drewN hB2 1).setCell (p := ⟨g, 0, none⟩) (Nat.le_refl _) _).setCell (p := ⟨g + 1, 0, none⟩) (Nat.le_add_right _ _) _).setCell (p := ⟨g + 2, 0, none⟩) (Nat.le_add_right _ _) _).setCell (p := ⟨g + 3, 0, none⟩) (Nat.le_add_right _ _) _
          · exact ((((OwnPm.setv (k := 0) (World.ownsRow.drew hop2) (by decide) _).setv (k := 1) (by decide) _).setv (k := 2) (by decide) _).setv (k := 3) (by decide) _).base (by omega)
      | cons x s1 =>
        rw [if_neg (by simp)] at hR
        simp only [Option.bind_none] at hR
        subst hR
        go_wp2_with fail
        refine (mustM_no _ _).mono ?_
        rintro e w5 ⟨rfl, rfl⟩
        unfold badM
        go_wp2
        refine type_bad ?_ st2 hB2 (Upd.refl _ _)
        intro w9 v0 v1 v2 v3 c0 c1 c2 c3
        simp [results, Tryz.results26, go_sem, c0, c1, c2, c3]
    | true =>
    simp only [if_true] at hR
    have hq2 := hq1.2 rfl
    go_wp2_with fail
    refine (token_any (g + 4) r4 _ st1.sc (by omega)).mono ?_
    intro e v2 h2
    rcases h2 with ⟨n, r5, hn, rfl, hk2, hu2⟩ | ⟨hn, rfl, hu2⟩
    case inr =>
      rw [hn] at hR
      simp only [Option.bind_none] at hR
      subst hR
      unfold badM
      go_wp2
      refine type_bad ?_ st1 hB1 hu2
      intro w9 v0 v1 v2 v3 c0 c1 c2 c3
      simp [results, Tryz.results26, go_sem, c0, c1, c2, c3]
    have hl2 := tokP_len hn
    rw [hn] at hR
    simp only [Option.bind_some] at hR
    have st2 := st1.upd hu2 hk2
    have hop2 : OwnPm v2 (g + 5) pv acc := hop1.later fun k hk => hu2.block k (World.ownsRow.lt hop1 k hk).2 (by have := (World.ownsRow.lt hop1 k hk).1; omega)
    have hz1 := st1.v3.lt
    have hB2 : Below g w v2 := hB1.trans (hu2.below (by omega) (by omega))
    clear hk2 hu2 hn st1 hop1 hB1
    go_wp2_with fail
    refine (mimeSmall_any n _ (by omega)).mono ?_
    rintro e v3 ⟨rfl, hb3⟩
    have st3 := st2.below hb3
    have hop3 := OwnPm.below hop2 hb3
    have hz2 := st2.v3.lt
    have hB3 := hB2.trans (hb3.mono (by omega))
    clear hb3 st2 hop2 hB2
    go_wp2_with fail
    refine (isM_any (g + 4) 61 r5 _ st3.sc (by omega)).mono ?_
    rintro e v4 ⟨rfl, hk4, hu4⟩
    have st4 := st3.upd hu4 hk4
    have hop4 : OwnPm v4 (g + 5) pv acc := hop3.later fun k hk => hu4.block k (World.ownsRow.lt hop3 k hk).2 (by have := (World.ownsRow.lt hop3 k hk).1; omega)
    have hz3 := st3.v3.lt
    have hB4 : Below g w v4 := hB3.trans (hu4.below (by omega) (by omega))
    clear hk4 hu4 st3 hop3 hB3
    have hl4 := (isC_len 61 r5).1
    obtain ⟨bb, r6, hq⟩ : ∃ bb r6, isC 61 r5 = (bb, r6) := ⟨_, _, rfl⟩
    rw [hq] at hR st4 hl4 ⊢
    simp only at hR st4 hl4 ⊢
    clear hq
    cases bb with
    | false =>
      simp only [Bool.false_eq_true, if_false, Option.bind_none] at hR
      subst hR
      go_wp2_with fail
      refine (mustM_no _ _).mono ?_
      rintro e w5 ⟨rfl, rfl⟩
      unfold badM
      go_wp2
      refine type_bad ?_ st4 hB4 (Upd.refl _ _)
      intro w9 v0 v1 v2 v3 c0 c1 c2 c3
      simp [results, Tryz.results26, go_sem, c0, c1, c2, c3]
    | true =>
    simp only [if_true] at hR
    go_wp2_with fail
    refine (mustM_yes _ _).mono ?_
    rintro e w5 ⟨rfl, rfl⟩
    obtain ⟨q2, g2⟩ := st4.v2
    rw [← HPV.out] at q2
    have st5 : TySt w5.drew g (.string (bs (lowL t))) (.string (bs (lowL s))) pv .nilIface r6 a := st4.low fun _ _ => rfl
    have hop5 : OwnPm w5.drew (g + 5) pv acc := World.ownsRow.drew hop4
    have hB5 : Below g w w5.drew := below_drewN hB4 1
    have hz4 := st4.v3.lt
    have hz5 : g + 3 < w5.drew.heap.size := hz4
    have hvc := value_any (g + 4) r6 w5.drew st5.sc (by omega)
    rcases hv : valP r6 with _ | ⟨vv, r7⟩
    · rw [hv] at hR hvc
      simp only [Option.bind_none] at hR
      subst hR
      have HV : Hid (Calls Tryz.prog 52 #[.pointer (some ⟨g + 4, 0, none⟩)] w5.drew fun e w' => e = badM ∧ Upd (g + 4) w5.drew w') := Lib.hid (hvc.mono fun e w' h => by
        rcases h with ⟨_, _, h, _⟩ | ⟨_, h1, h2⟩
        · cases h
        · exact ⟨h1, h2⟩)
      clear hvc hv
      go_wp2
      refine Code.wp_mono (Q := PanQ g fun w9 => Upd (g + 4) w5.drew w9) (fun e a9 w9 h => ?_) ?_
      · cases e with
        | panic c =>
          obtain ⟨rfl, h4, h5, h6⟩ := h
          show Leaves _ _ a9.tmps _ a9.defers _ _
          rw [h5]
          exact type_bad h4.res st5 hB5 h6
        | _ => exact h.elim
      refine wp_region_any (by kernel_rfl) ?_
      try (change wpAny _ _ _ _ _ _ _ (World.drew _))
      refine wpAny_take (i := 1) (v := ?_) rfl (by kernel_rfl) (by kernel_rfl) (by kernel_rfl) (fun _ _ _ h => panq_take (by decide) h) (Or.inl ⟨by rfl, ?_⟩) ?_
      rotate_left
      · intro w
        go_simp
        try (with_reducible rfl)
      refine wpAny_take (i := 2) (v := ?_) rfl (by kernel_rfl) (by kernel_rfl) (by kernel_rfl) (fun _ _ _ h => panq_take (by decide) h) (Or.inl ⟨by rfl, ?_⟩) ?_
      rotate_left
      · intro w
        go_simp
        try (with_reducible rfl)
      refine wpAny_ready (rs := [0, 3]) (by kernel_rfl) (by simp) ?_
      refine AllReady.cons rfl (fun K hK => ?_) (AllReady.cons rfl (fun K hK => ?_) AllReady.nil)
      · go_simp
        refine hK _ _ ?_
        clear hK K
        refine wpAny_ready (rs := [3]) (by kernel_rfl) (by simp) ?_
        refine AllReady.cons rfl (fun K hK => ?_) AllReady.nil
        go_simp
        go_wp2_with (go_at_call 52; refine HV.out.mono ?_; rintro e w9 ⟨rfl, hu⟩; unfold badM)
        exact ⟨rfl, ⟨rfl, rfl, rfl, rfl⟩, rfl, hu⟩
      · go_simp
        go_wp2_with (go_at_call 52; refine HV.out.mono ?_; rintro e w9 ⟨rfl, hu⟩; unfold badM)
        exact ⟨rfl, ⟨rfl, rfl, rfl, rfl⟩, rfl, hu⟩
    rw [hv] at hR hvc
    simp only [Option.bind_some] at hR
    have hl7 := valP_len hv
    replace HR := Lib.hid hR
    have HV : Hid (Calls Tryz.prog 52 #[.pointer (some ⟨g + 4, 0, none⟩)] w5.drew fun e w' => e = .returned (.string (bs vv)) ∧ ScM w' (g + 4) r7 ∧ Upd (g + 4) w5.drew w') := Lib.hid (hvc.mono fun e w' h => by
      rcases h with ⟨t, r, h, h1, h2, h3⟩ | ⟨h, _⟩
      · cases h; exact ⟨h1, h2, h3⟩
      · cases h)
    clear hvc hv hR
    go_wp2_with fail
    refine Code.wp_mono NoPan.out ?_
    go_region_law (first | (refine step_append_lies _ (by rfl) _ _ _ (by rfl) (g + 5) 51 i0 _ 2 32 Tryz.underlying23 hi0 hy0 hy1 hy2 rfl (by omega) (.slice pa acc.length pc) acc.length (cellsPm acc) (by rfl) (World.ownsRow.alloc hop6 _) ⟨v6.heap.size, 0, none⟩ 1 1 [.string (bs (lowL n)), .string (bs vv)] (by rfl) (by rfl) (World.news_of_block (cs := #[.string (bs (lowL n)), .string (bs vv)]) (t := 51) (fr := (0, 0)) (heap_new v6 _)) (by simp [Value.oneCell']) (by omega) (by unfold maxLen; omega) (by omega) (by simp; omega) (v6.heap.size + 1) (by simp) ?_; intro gg cap w9 hown9 hgrow hat hlt; have st9 := st6.low (w' := w9) (fun k hk => (hgrow.block k (by simp; omega) (fun e => by have := (hlo6 _ e.symm).1; omega)).trans (heap_old v6 _ _ (by omega))); obtain ⟨c9, f9⟩ := st9.v2; rw [← HPV.out] at c9) | (go_simp; go_wp2_with (go_at_call 52; refine HV.out.mono ?_; rintro e v6 ⟨rfl, hk6, hu6⟩; have st6 := st5.upd hu6 hk6; have hop6 : OwnPm v6 (g + 5) (.slice pa acc.length pc) acc := (by rw [HPV.out]; exact (hop5.later fun k hk => hu6.block k (World.ownsRow.lt hop5 k hk).2 (by have := (World.ownsRow.lt hop5 k hk).1; omega))); have hlo6 := fun j hj => World.ownsRow.lt hop6 j hj; have hz6 := st6.v3.lt; have hz7 := scm_lt st6.sc; have hB6 : Below g w v6 := hB5.trans (hu6.below (by omega) (by omega)); obtain ⟨p2, h2⟩ := st6.v2; rw [← HPV.out] at p2; have p3 := cell_alloc p2 (.cells #[.string (bs (lowL n)), .string (bs vv)] 51))))
    all_goals
      simp only [NoPan]
      go_wp2
      go_roundg k2
      case measure => omega
      case rel =>
        have hp9 : OwnPm w9 (g + 5) (.slice (some ⟨gg, 0, none⟩) (acc.length + 1) cap) (acc ++ [(lowL n, vv)]) := OwnPm.step hown9
        refine ⟨k2, _, r7, acc ++ [(lowL n, vv)], rfl, by omega, st9.set2 _, OwnPm.setv (k := 2) hp9 (by decide) _, ?_, HR, by simp; omega⟩
        exact (hB6.trans ⟨hgrow.os, hgrow.tape, hgrow.output, by have := hgrow.size; simp at this; omega, fun k hk => (hgrow.block k (by simp; omega) (fun e => by have := (hlo6 _ e.symm).1; omega)).trans (heap_old v6 _ _ (by omega))⟩).setCell (p := ⟨g + 2, 0, none⟩) (Nat.le_add_right _ _) _

theorem type_any (l : List UInt8) (a : Addr) (w : World) (hl : l.length ≤ 100000000) (hE : w.cell? ⟨0, 0, none⟩ = some (errV a)) : Calls Tryz.prog 26 #[.string (bs l)] w (TypeM w.heap.size (typeP l) a w) := type_at _ l a w rfl hl hE

end Go.Proofs.YtalgmnlclflllaaGreatDoor
end

/- mime: what the reading of a part, of a multipart's kids leaves behind. -/
set_option linter.unusedVariables false
set_option linter.unusedSimpArgs false
section
namespace Go.Proofs.YtalgmnlclflllaaGreatDoor
open Go.RowKit Go

theorem _root_.Go.World.ownsRow.under {w w' : World} {B : Nat} {e : TypeId} {sz : Nat} {v : Value} {n : Nat} {xs : List Value} (h : w.ownsRow B e sz v n xs) (hb : Below w.heap.size w w') : w'.ownsRow B e sz v n xs := by
  have hlt := World.ownsRow.lt h
  refine ⟨h.1, ?_⟩
  rcases h.2 with h0 | ⟨g, cap, cur, rfl, h1, h2, r⟩
  · exact .inl h0
  · exact .inr ⟨g, cap, cur, rfl, h1, (hb.block g (hlt g rfl).2).trans h2, r⟩
/-- what the reading of a part leaves behind -/
def PartP (m : List UInt8) (n a b : Nat) (w : World) (e : Ending) (w' : World) : Prop := ∃ v, e = .returned v ∧ PtAt w' (fun b => w.heap.size ≤ b ∧ b < w'.heap.size) v (partT m n a b) ∧ Below w.heap.size w w'
/-- the errors' cells -/
def EnvM (w : World) (a f : Addr) : Prop := w.cell? ⟨0, 0, none⟩ = some (errV a) ∧ w.cell? ⟨10, 0, none⟩ = some (errV f)
theorem EnvM.below {w w' : World} {a f : Addr} (h : EnvM w a f) (hb : Below w.heap.size w w') : EnvM w' a f :=
  ⟨(hb.cell (p := ⟨0, 0, none⟩) (cell_lt h.1)).trans h.1, (hb.cell (p := ⟨10, 0, none⟩) (cell_lt h.2)).trans h.2⟩
theorem EnvM.upd {w w' : World} {a f : Addr} {c : Nat} (h : EnvM w a f) (hu : Upd c w w') (h1 : 0 ≠ c) (h2 : 10 ≠ c) : EnvM w' a f := ⟨upd_cell hu h1 h.1, upd_cell hu h2 h.2⟩
/-- what the reading of the kids leaves behind -/
def MultiP (c : Nat) (typ sub : List UInt8) (pv : Value) (id desc enc : List UInt8) (ap bo fi ln : Int) (ks : List Prt) (w : World) (e : Ending) (w' : World) : Prop :=
  e = .returned (.tuple #[]) ∧ Upd c w w' ∧ ((ks = [] ∧ PrtC w' c applT octT (.slice none 0 0) id desc enc ap bo fi ln (.slice none 0 0)) ∨ (ks ≠ [] ∧ ∃ kv, PrtC w' c typ sub pv id desc enc ap bo fi ln kv ∧ OwnK w' w.heap.size kv ks))
theorem OwnK.base {w : World} {b b' : Nat} {v : Value} {ks : List Prt} (h : OwnK w b v ks) (hb : b' ≤ b) : OwnK w b' v ks := by
  obtain ⟨vals, h1, h2, h3⟩ := h
  refine ⟨vals, ⟨h1.1, ?_⟩, h2, fun j k hj => ?_⟩
  · rcases h1.2 with h0 | ⟨g, cap, cur, e, h4, r⟩
    · exact .inl h0
    · exact .inr ⟨g, cap, cur, e, Nat.le_trans hb h4, r⟩
  · obtain ⟨x, e1, e2, e3⟩ := h3 j k hj
    exact ⟨x, e1, e2, e3.imp fun b hok _ => ⟨by omega, hok.2⟩⟩
theorem OwnK.lt {w : World} {lo : Nat} {v : Value} {ks : List Prt} (h : OwnK w lo v ks) : ∀ g, v.ownBlock = some g → lo ≤ g ∧ g < w.heap.size := by
  obtain ⟨vals, h1, _⟩ := h
  exact fun g hg => World.ownsRow.lt h1 g hg
/-- beside the row and what its kids hold nothing matters -/
theorem OwnK.keep {w w' : World} {lo : Nat} {v : Value} {ks : List Prt} (h : OwnK w lo v ks) (hk : ∀ b, lo ≤ b → b < w.heap.size → w'.heap[b]? = w.heap[b]?) (hs : w.heap.size ≤ w'.heap.size) : OwnK w' lo v ks := by
  have hlt := h.lt
  obtain ⟨vals, h1, h2, h3⟩ := h
  refine ⟨vals, ⟨h1.1, ?_⟩, h2, fun j k hj => ?_⟩
  · rcases h1.2 with h0 | ⟨g, cap, cur, e, h4, h5, r⟩
    · exact .inl h0
    · subst e
      exact .inr ⟨g, cap, cur, rfl, h4, (hk g h4 (hlt g rfl).2).trans h5, r⟩
  · obtain ⟨x, e1, e2, e3⟩ := h3 j k hj
    exact ⟨x, e1, e2, (e3.keep fun b hok hbl => hk b hok.1 hbl).imp fun b hok _ => ⟨hok.1, by omega, hok.2.2⟩⟩

theorem endL_count (e : Nat) (out : List (Nat × Nat)) : (endL e out).length = out.length := by
  rcases snoc_or out with rfl | ⟨a, s, rfl⟩
  · rfl
  · rw [endL_snoc]; simp
theorem cutGo_count (m : List UInt8) (fin : Nat) (dl : List UInt8) : ∀ (ls : List (List UInt8)) (out : List (Nat × Nat)) (p : Nat), (cutGo m fin dl out p ls).length ≤ out.length + ls.length
  | [], out, p => by simp [cutGo]
  | x :: ls, out, p => by
    rw [cutGo]
    split
    · rw [endL_count]; omega
    · split
      · have := cutGo_count m fin dl ls (endL (aheadL m p) out ++ [(p + x.length, fin)]) (p + x.length)
        rw [List.length_append, endL_count] at this
        simp at this ⊢
        omega
      · have := cutGo_count m fin dl ls out (p + x.length)
        simp
        omega
theorem cutM_count (m : List UInt8) (p fin : Nat) (dl : List UInt8) (hf : fin ≤ 1000000) : (cutM m p fin dl).length ≤ 2000000 := by
  have h1 := cutGo_count m fin dl (linesOf (pieceM m p fin)) [] p
  have h2 := linesOf_length (pieceM m p fin)
  have h3 : (pieceM m p fin).length ≤ fin := by unfold pieceM; rw [List.length_take]; omega
  unfold cutM
  simp at h1
  omega

end Go.Proofs.YtalgmnlclflllaaGreatDoor
end

/- header.small: the iterator, slices.AppendSeq, slices.Collect. -/
set_option linter.unusedVariables false
set_option linter.unusedSimpArgs false
section
namespace Go.Proofs.YtalgmnlclflllaaGreatDoor
open Go.RowKit Go Go.Shelf
attribute [local go_sem] Oper.semAt_some

/-- []byte(s), with its block -/
theorem to_row (l : List UInt8) (w : World) : ∃ (cap : Nat) (w' : World) (cs : Array Value) (t : TypeId) (fr : Nat × Nat), (convert 9 68 (.string (bs l))).run Tryz.prog w = .ok (.slice (some ⟨w.heap.size, 0, none⟩) l.length cap) w' ∧
    w'.heap[w.heap.size]? = some (.cells cs t fr) ∧ fr ≠ (0, 0) ∧ (∀ i, i < l.length → cs[i]? = some (.int .u8 ((l.getD i 0).toNat : Int))) ∧ w.grownBy w' none ∧ w.heap.size < w'.heap.size := by
  have h := run_bytes_of_string (P := Tryz.prog) w 9 68 5 (bs l) Tryz.underlying9 Tryz.underlying68 Tryz.underlying5
  rw [bs_size] at h
  refine ⟨_, _, _, _, _, h, heap_new w.drew _, by simp, fun i hi => ?_, ⟨rfl, rfl, rfl, by simp, fun k hk _ => heap_old w.drew _ _ hk⟩, by simp⟩
  have hb := bytesRow_at (bs l) (grownCap w l.length 0 5) i (by simpa using hi)
  rw [hb]
  simp [List.getD, hi]

/-- rows that a conversion laid stay -/
def KeepsRows (W W' : World) : Prop := ∀ (k : Nat) (cs : Array Value) (t : TypeId) (fr : Nat × Nat), W.heap[k]? = some (Obj.cells cs t fr) → fr ≠ (0, 0) → W'.heap[k]? = some (Obj.cells cs t fr)
theorem keepsRows_t {A B C : World} (h : KeepsRows A B) (k : KeepsRows B C) : KeepsRows A C := fun i cs t fr e hf => k i cs t fr (h i cs t fr e hf) hf
theorem keepsRows_b {n : Nat} (W : World) (l : Nat) (o o' : Obj) (_ : n ≤ l) (h : W.heap[l]? = some o) (hc : o.isCells = false) (_ : o.isWalk = false) : KeepsRows W (W.putObj l o') := by
  intro k cs t fr e _
  refine (World.putObj_heap_other ?_).trans e
  rintro rfl
  rw [e] at h
  obtain rfl := Option.some.inj h
  cases hc
theorem keepsRows_app {W w1 : World} {n₀ B : Nat} {t e : TypeId} {size : Nat} {v v' : Value} {k : Nat} {xs : List Value} {tmp : Obj}
    (hv : Boxed W B t v) (hrow : W.ownsRow n₀ e size v k xs) (hgrow : (W.alloc tmp).grownBy w1 v.ownBlock) : KeepsRows W (w1.setCell ⟨B, 0, none⟩ v') := by
  intro i cs u fr he hf
  have hlt := (Array.getElem?_eq_some_iff.1 he).1
  have hiB : i ≠ B := by
    rintro rfl
    have h9 : W.heap[i]? = some (.cells #[v] t (0, 0)) := hv
    rw [he] at h9
    simp at h9
    exact hf h9.2.2
  have hir : some i ≠ v.ownBlock := by
    intro eo
    rcases hrow.2 with ⟨rfl, _⟩ | ⟨g, cap, cur, rfl, _, hg, _⟩
    · cases eo
    · obtain rfl : i = g := by simpa [Value.ownBlock] using eo
      rw [he] at hg
      simp at hg
      exact hf hg.2.2
  rw [Below.heap_setCell _ _ _ _ (by simpa using hiB), hgrow.block i (by simp; omega) hir, Below.heap_alloc _ _ _ hlt]
  exact he

theorem row_cell {W : World} {g k : Nat} {cs : Array Value} {t : TypeId} {fr : Nat × Nat} {x : Value} (h : W.heap[g]? = some (.cells cs t fr)) (hx : cs[k]? = some x) : W.cell? ⟨g, k, none⟩ = some x := by
  simp [World.cell?, h, hx]

set_option maxRecDepth 100000 in
set_option maxHeartbeats 2000000 in
theorem small_seq (n : Nat) (hn : 1 ≤ n) (b : Nat) (s : List UInt8) (w : World) (hs : s.length ≤ 140737488355328) (hb : Boxed w b 9 (.string (bs s))) :
    SeqStopsK Fence.wide n Tryz.prog 143 #[.pointer (some ⟨b, 0, none⟩)] (fun c : UInt8 => #[.int .u8 ((c.toNat : Nat) : Int)]) KeepsRows (fun xs => xs = lowL s) (fun _ => True) s.length w := by
  intro l J Jx W hW hJ hJx hY h0
  have hbW : Boxed W b 9 (.string (bs s)) := (hW.block b hb.lt).trans hb
  have hc := hbW.cell
  obtain ⟨cap, w1, cs, t, fr, hrun, hrow, hfr, hcs, hg1, hlt1⟩ := to_row s W
  have hj1 := hJ [] W w1 none h0 hg1 (fun r e => by cases e)
  have HFR := Lib.hid hfr
  have HCS := Lib.hid hcs
  clear hfr hcs hbW hg1
  refine callsIn_of_wp Tryz.func143 rfl trivial ?_ rfl
  simp only [Tryz.ntmps143, List.size_toArray, List.length_cons, List.length_nil, Nat.reduceAdd, Nat.reduceSub, Array.replicate_succ, Array.replicate_zero, List.push_toArray, List.append_toArray, List.nil_append, List.cons_append]
  gi_wp2
  gi_loopw [4, 8] (fun _ c wr => ∃ k : Nat, k ≤ s.length ∧ c = .int .i64 k ∧ wr.heap[W.heap.size]? = some (.cells cs t fr) ∧ J ((lowL s).take k) wr) (fun _ c _ => s.length - (intOf c).toNat)
  case atStart => exact ⟨0, Nat.zero_le _, rfl, hrow, by simpa using hj1⟩
  case round =>
    obtain ⟨k, hk, rfl, hrw, hj⟩ := hrel
    by_cases hlt : k < s.length
    · obtain ⟨c, hcc⟩ : ∃ c, s.getD k 0 = c := ⟨_, rfl⟩
      have hcell : wr.cell? ⟨W.heap.size, k, none⟩ = some (.int .u8 ((c.toNat : Nat) : Int)) := row_cell hrw (by rw [HCS.out k hlt, hcc])
      have hlt' : (k : Int) < s.length := by omega
      obtain ⟨fn, tmps, assign, body, hy, hR⟩ := hY ((lowL s).take k) (lowB c) wr hj (by simp [lowL_length]; omega)
      rw [← low_take hlt hcc] at hR
      have hc256 := c.toNat_lt
      have HRW := Lib.hid hrw
      clear hcc hrw
      by_cases h65 : 65 ≤ c.toNat ∧ c.toNat ≤ 90
      · obtain ⟨h1, h2⟩ := h65
        rw [lowB_yes h1 h2] at hy
        have h1' : (65 : Int) ≤ c.toNat := by omega
        have h2' : (c.toNat : Int) ≤ 90 := by omega
        have hcast : ((c.toNat + 32 : Nat) : Int) = (c.toNat : Int) + 32 := by omega
        rw [hcast] at hy
        clear hcast
        gi_wp2
        refine hR.mono ?_
        rintro e W3 (⟨rfl, hJ3, hk3⟩ | ⟨rfl, hJx3⟩)
        · gi_wp2
          go_roundw
          case rel => exact ⟨k + 1, by omega, by go_num, hk3 _ _ _ _ HRW.out HFR.out, hJ3⟩
          case measure => simp [intOf]; omega
        · gi_wp2
          refine bodyPost_ret (results_none rfl _ _ _) rfl ?_
          exact ⟨⟨_, rfl⟩, .inr ⟨_, trivial, hJx3⟩⟩
      · rw [lowB_no h65] at hy
        have h65' : ¬ ((65 : Int) ≤ c.toNat ∧ (c.toNat : Int) ≤ 90) := by omega
        have hcase : (c.toNat : Int) < 65 ∨ (65 : Int) ≤ c.toNat ∧ 90 < (c.toNat : Int) := by omega
        clear h65 h65'
        rcases hcase with h1 | ⟨h1, h2⟩
        all_goals
          gi_wp2
          refine hR.mono ?_
          rintro e W3 (⟨rfl, hJ3, hk3⟩ | ⟨rfl, hJx3⟩)
          · gi_wp2
            go_roundw
            case rel => exact ⟨k + 1, by omega, by go_num, hk3 _ _ _ _ HRW.out HFR.out, hJ3⟩
            case measure => simp [intOf]; omega
          · gi_wp2
            refine bodyPost_ret (results_none rfl _ _ _) rfl ?_
            exact ⟨⟨_, rfl⟩, .inr ⟨_, trivial, hJx3⟩⟩
    · obtain rfl : k = s.length := by omega
      gi_wp2
      go_end0
      exact ⟨⟨_, rfl⟩, .inl ⟨_, rfl, by rw [← lowL_length, List.take_length] at hj; exact hj⟩⟩

theorem ownsRow_base {w : World} {b b' : Nat} {e : TypeId} {size n : Nat} {v : Value} {xs : List Value} (h : w.ownsRow b e size v n xs) (hb : b' ≤ b) : w.ownsRow b' e size v n xs := by
  refine ⟨h.1, ?_⟩
  rcases h.2 with h0 | ⟨g, cap, cur, e, h1, r⟩
  · exact .inl h0
  · exact .inr ⟨g, cap, cur, e, Nat.le_trans hb h1, r⟩

/-- bytes of the call's own -/
def BytesP (B : Nat) (l : List UInt8) (w : World) (e : Ending) (w' : World) : Prop := ∃ v, e = .returned v ∧ OwnB w' B v l ∧ Below B w w'

set_option maxRecDepth 100000 in
set_option maxHeartbeats 2000000 in
theorem appendSeq_any (s : List UInt8) (b : Nat) (w : World) (hs : s.length ≤ 1099511627776) (hb : Boxed w b 9 (.string (bs s))) :
    Calls Tryz.prog 151 #[.slice none 0 0, .func (.func 143) #[] #[.pointer (some ⟨b, 0, none⟩)]] w (BytesP w.heap.size (lowL s) w) := by
  obtain ⟨i0, hi, hz0, hz1, hz2⟩ := info_parts info_u8
  refine (callsIn_wide (n := 3)).1 ?_
  refine callsIn_of_wp_marks Tryz.func151 rfl trivial ?_ rfl
  simp only [Tryz.ntmps151, List.size_toArray, List.length_cons, List.length_nil, Nat.reduceAdd, Nat.reduceSub, Array.replicate_succ, Array.replicate_zero, List.push_toArray, List.append_toArray, List.nil_append, List.cons_append]
  gi_wp2
  have bO := Boxed.new w 68 (.slice none 0 0)
  have hB0 : Below w.heap.size w (w.alloc (.cells #[.slice none 0 0] 68)) := (Below.refl _ w).alloc (Nat.le_refl _) _
  refine wpIn_rangeFunc_ownF rfl (by omega) (gf := 143) (lb := #[.pointer (some ⟨b, 0, none⟩)]) rfl trivial (enters_of Tryz.func143 (by kernel_rfl) rfl)
    (small_seq 2 (by omega) b s w (by omega) hb) (fun h k => keepsRows_t h k) keepsRows_b hB0 (fun _ => rfl)
    (fun pre W => (∃ v, Boxed W w.heap.size 68 v ∧ W.ownsRow (w.heap.size + 1) 5 1 v pre.length (cellsB pre) ∧ True) ∧ Below w.heap.size w W ∧ w.heap.size + 1 ≤ W.heap.size)
    (fun _ _ _ => False)
    (OwnFrom.and (Own.from (holdsRow_own (w.heap.size + 1) w.heap.size 68 5 1 (fun pre => pre.length) (fun pre => cellsB pre) (fun _ _ => True)) _) (OwnFrom.and (ownFrom_below (Nat.le_refl _) (by simp)) ownFrom_size))
    (fun _ _ _ _ _ hs _ _ => hs)
    ⟨⟨_, bO, World.ownsRow_nil _ _ _ _, trivial⟩, hB0, by simp⟩
    (fun x => { tmps := #[.slice none 0 0, .func (.func 143) #[] #[.pointer (some ⟨b, 0, none⟩)], .pointer (some ⟨w.heap.size, 0, none⟩), undef, .slice none 0 0, .int .u8 ((x.toNat : Nat) : Int), .func (.func 143) #[] #[.pointer (some ⟨b, 0, none⟩)], .int .u8 ((x.toNat : Nat) : Int), undef, undef, undef, undef, undef], defers := [] }) ?assign ?body ?done ?stop
  case assign =>
    intro l x W K hK
    gi_wp2
    exact hK
  case body =>
    rintro l pre x W ⟨⟨v, hv, hrow, _⟩, hB, hbW⟩ hpl
    have hc := hv.cell
    have hzW := hB.size
    gi_wp2_with (gi_at_builtin; refine wpListIn_append_own _ rfl _ _ 68 rfl (w.heap.size + 1) 5 i0 (.int .u8 0) 1 1 Tryz.underlying68 hi hz0 hz1 hz2 rfl (by decide) _ _ _ rfl (hrow.alloc _) ⟨W.heap.size, 0, none⟩ 1 1 [.int .u8 ((x.toNat : Nat) : Int)] rfl rfl (cell_one_new _ _ _) (by simp [Value.oneCell']) (by unfold maxLen; omega) (by omega) (by simp; omega) ?_; intro v' w1 hown' hgrow _; obtain ⟨g', cap', rfl⟩ := ownsRow_succ hown'; have hkr := keepsRows_app (v' := Value.slice (some ⟨g', 0, none⟩) (pre.length + 1) cap') hv hrow hgrow; obtain ⟨hv1, hv2, hr2, hk2, hb2, ho2⟩ := boxed_appended hv (by decide) hrow (by omega) hzW (Nat.le_refl _) hown' hgrow; have hc1 := hv1.cell; have hf1 := hv1.frozen)
    exact ⟨hk2, hkr, ⟨_, hv2, by rw [cellsB_append, List.length_append]; exact hr2, trivial⟩, hB.trans hb2, Nat.le_trans hbW hk2.size⟩
  case done =>
    rintro D xs W hD rfl ⟨⟨v, hv, hrow, _⟩, hB, hbW⟩ hK
    have hc := hv.cell
    gi_wp2
    refine ⟨by simp, .inl ⟨_, _, rfl, run_takeDeferred hK, ?_⟩⟩
    exact ⟨_, results_tmp rfl _ _ _, v, rfl, ownsRow_base (ownsRow_putObj hrow _ hK rfl) (by omega), hB.trans (belowK_b (w := w) (Nat.le_refl _) W D _ _ (by simp at hD; omega) hK rfl rfl)⟩
  case stop =>
    rintro D c pre W _ _ h _
    exact h.elim

end Go.Proofs.YtalgmnlclflllaaGreatDoor
end

/- header.small, header.Same; the reference's Small. -/
set_option linter.unusedVariables false
set_option linter.unusedSimpArgs false
section
namespace Go.Proofs.YtalgmnlclflllaaGreatDoor
open Go.RowKit

set_option maxRecDepth 100000 in
theorem collect_any (s : List UInt8) (b : Nat) (w : World) (hs : s.length ≤ 1099511627776) (hb : Boxed w b 9 (.string (bs s))) :
    Calls Tryz.prog 142 #[.func (.func 143) #[] #[.pointer (some ⟨b, 0, none⟩)]] w (BytesP w.heap.size (lowL s) w) := by
  have HC := fun w0 (h : Boxed w0 b 9 (.string (bs s))) => appendSeq_any s b w0 hs h
  have HC2 := Lib.hid HC
  have HB := Lib.hid hb
  clear HC hb
  go_enter Tryz.func142, Tryz.ntmps142
  go_wp2_with fail
  refine (HC2.out _ HB.out).mono ?_
  rintro e w2 ⟨v, rfl, ho, hb2⟩
  go_wp2
  go_ret
  exact ⟨v, rfl, ho, hb2⟩

set_option maxRecDepth 100000 in
theorem small_any (s : List UInt8) (w : World) (hs : s.length ≤ 1099511627776) : Calls Tryz.prog 124 #[.string (bs s)] w fun e w' => e = .returned (.string (bs (lowL s))) ∧ Below w.heap.size w w' := by
  have HS := Lib.hid hs
  have hB0 : Below w.heap.size w (w.alloc (.cells #[.string (bs s)] 9)) := (Below.refl _ w).alloc (Nat.le_refl _) _
  have bO := Boxed.new w 9 (.string (bs s))
  have HBO := Lib.hid bO
  clear bO hs
  go_enter Tryz.func124, Tryz.ntmps124
  go_wp2_with fail
  refine (collect_any s _ _ HS.out HBO.out).mono ?_
  rintro e w2 ⟨v, rfl, ho, hb2⟩
  have hcv := convert_bytes ho.bytes
  have hB2 := hB0.trans (hb2.mono (by simp))
  clear ho hb2
  go_wp2
  go_ret
  exact ⟨rfl, hB2⟩

set_option maxRecDepth 100000 in
theorem hsame_any (a b : List UInt8) (w : World) (ha : a.length ≤ 1099511627776) (hb : b.length ≤ 1099511627776) : Calls Tryz.prog 97 #[.string (bs a), .string (bs b)] w fun e w' => e = .returned (.bool (lowL a == lowL b)) ∧ Below w.heap.size w w' := by
  have HA := Lib.hid ha
  have HB := Lib.hid hb
  clear ha hb
  go_enter Tryz.func97, Tryz.ntmps97
  go_wp2_with fail
  refine (small_any a _ HA.out).mono ?_
  rintro e w2 ⟨rfl, hb2⟩
  go_wp2_with fail
  refine (small_any b _ HB.out).mono ?_
  rintro e w3 ⟨rfl, hb3⟩
  go_wp2
  go_ret
  exact ⟨rfl, hb2.trans (hb3.mono hb2.size)⟩

/-- []byte(s), with its block -/
theorem to_row2 (l : List UInt8) (w : World) : ∃ (cap : Nat) (w' : World) (cs : Array Value) (t : TypeId), (convert 9 68 (.string (bs l))).run Tryz.prog w = .ok (.slice (some ⟨w.heap.size, 0, none⟩) l.length cap) w' ∧
    w'.heap[w.heap.size]? = some (.cells cs t (cs.size, cs.size + 1)) ∧ l.length ≤ cs.size ∧ (∀ i, i < l.length → cs[i]? = some (.int .u8 ((l.getD i 0).toNat : Int))) ∧ Below w.heap.size w w' ∧ w.heap.size < w'.heap.size := by
  have h := run_bytes_of_string (P := Tryz.prog) w 9 68 5 (bs l) Tryz.underlying9 Tryz.underlying68 Tryz.underlying5
  rw [bs_size] at h
  have hcs : ∀ i, i < l.length → (bytesRow (bs l) (grownCap w l.length 0 5))[i]? = some (.int .u8 ((l.getD i 0).toNat : Int)) := fun i hi => by
    have hb := bytesRow_at (bs l) (grownCap w l.length 0 5) i (by simpa using hi)
    rw [hb]
    simp [List.getD, hi]
  refine ⟨_, _, _, _, h, heap_new w.drew _, by unfold bytesRow; simp, hcs, ((Below.refl _ w).drew).alloc (Nat.le_refl _) _, by simp⟩

theorem set_row {W : World} {g k : Nat} {cs : Array Value} {t : TypeId} {fr : Nat × Nat} (h : W.heap[g]? = some (.cells cs t fr)) (x : Value) : (W.setCell ⟨g, k, none⟩ x).heap[g]? = some (.cells (cs.setIfInBounds k x) t fr) := by
  simp [World.setCell, Array.getElem?_modify, h]

set_option maxRecDepth 100000 in
set_option maxHeartbeats 1000000 in
theorem refSmall_any (s : List UInt8) (w : World) (hs : s.length ≤ 1099511627776) : Calls Tryz.prog 32 #[.string (bs s)] w fun e w' => e = .returned (.string (bs (lowL s))) ∧ Below w.heap.size w w' := by
  obtain ⟨cap, w1, cs0, t, hrun, hrow, hle, hcs, hb1, hlt1⟩ := to_row2 s w
  obtain ⟨N, hN⟩ : ∃ N, cs0.size = N := ⟨_, rfl⟩
  rw [hN] at hrow hle
  have HCS := Lib.hid hcs
  clear hcs hN
  go_enter Tryz.func32, Tryz.ntmps32
  go_wp2
  go_loopw [4, 9] (fun _ c wr => ∃ (k : Nat) (cs : Array Value), k ≤ s.length ∧ c = .int .i64 k ∧ wr.heap[w.heap.size]? = some (.cells cs t (N, N + 1)) ∧ Hid (∀ j, j < s.length → cs[j]? = some (.int .u8 (((if j < k then lowB (s.getD j 0) else s.getD j 0).toNat : Nat) : Int))) ∧ Below w.heap.size w wr) (fun _ c _ => s.length - (intOf c).toNat)
  case atStart => exact ⟨0, cs0, Nat.zero_le _, rfl, hrow, by intro j hj; rw [HCS.out j hj]; simp, hb1⟩
  case round =>
    obtain ⟨k, cs, hk, rfl, hrw, hcs, hB⟩ := hrel
    by_cases hlt : k < s.length
    · obtain ⟨c, hcc⟩ : ∃ c, s.getD k 0 = c := ⟨_, rfl⟩
      have hck := hcs.out k hlt
      rw [if_neg (Nat.lt_irrefl k), hcc] at hck
      have hcell : wr.cell? ⟨w.heap.size, k, none⟩ = some (.int .u8 ((c.toNat : Nat) : Int)) := row_cell hrw hck
      have hfz : wr.frozen? ⟨w.heap.size, k, none⟩ = false := by simp [World.frozen?, hrw]; omega
      have hlt' : (k : Int) < s.length := by omega
      have hc256 := c.toNat_lt
      have HRW := Lib.hid hrw
      have HCC := Lib.hid hcc
      have hksz : k < cs.size := (Array.getElem?_eq_some_iff.1 hck).1
      clear hcc hrw hck
      by_cases h65 : 65 ≤ c.toNat ∧ c.toNat ≤ 90
      · obtain ⟨h1, h2⟩ := h65
        have hlo := lowB_yes h1 h2
        have h1' : (65 : Int) ≤ c.toNat := by omega
        have h2' : (c.toNat : Int) ≤ 90 := by omega
        have HLO := Lib.hid hlo
        clear hlo
        go_wp2
        go_roundw
        case rel =>
          refine ⟨k + 1, cs.setIfInBounds k (.int .u8 ((c.toNat : Int) + 32)), by omega, by go_num, set_row HRW.out _, ?_, hB.setCell (p := ⟨w.heap.size, k, none⟩) (Nat.le_refl _) _⟩
          intro j hj
          by_cases e : j = k
          · subst e
            rw [Array.getElem?_setIfInBounds_self_of_lt hksz, if_pos (by omega), HCC.out, HLO.out]
            congr 2
          · rw [Array.getElem?_setIfInBounds_ne (by omega), hcs.out j hj]
            by_cases h3 : j < k
            · rw [if_pos h3, if_pos (by omega)]
            · rw [if_neg h3, if_neg (by omega)]
        case measure => simp [intOf]; omega
      · have hlo := lowB_no h65
        have h65' : ¬ ((65 : Int) ≤ c.toNat ∧ (c.toNat : Int) ≤ 90) := by omega
        have hcase : (c.toNat : Int) < 65 ∨ (65 : Int) ≤ c.toNat ∧ 90 < (c.toNat : Int) := by omega
        have HLO := Lib.hid hlo
        clear h65 h65' hlo
        have hnext : Hid (∀ j, j < s.length → cs[j]? = some (.int .u8 (((if j < k + 1 then lowB (s.getD j 0) else s.getD j 0).toNat : Nat) : Int))) := by
          intro j hj
          rw [hcs.out j hj]
          by_cases e : j = k
          · subst e
            rw [if_neg (Nat.lt_irrefl _), if_pos (by omega), HCC.out, HLO.out]
          · by_cases h3 : j < k
            · rw [if_pos h3, if_pos (by omega)]
            · rw [if_neg h3, if_neg (by omega)]
        rcases hcase with h1 | ⟨h1, h2⟩
        all_goals
          go_wp2
          go_roundw
          case rel => exact ⟨k + 1, cs, by omega, by go_num, HRW.out, hnext, hB⟩
          case measure => simp [intOf]; omega
    · obtain rfl : k = s.length := by omega
      have hcv := convert_bytes (v := .slice (some ⟨w.heap.size, 0, none⟩) s.length cap) (w := wr) (l := lowL s) (.inr ⟨w.heap.size, 0, cap, by rw [lowL_length], fun i hi => by
        rw [lowL_length] at hi
        refine row_cell hrw ?_
        rw [Nat.zero_add, hcs.out i hi, if_pos hi]
        simp [lowL, hi]⟩)
      clear hrw
      go_wp2
      go_ret
      exact ⟨rfl, hB⟩

end Go.Proofs.YtalgmnlclflllaaGreatDoor
end
