/- Texts of one walk, merged: XD10 XM6 XOb XCb XM7 XBx XLs XSs XSp XQ1 XLj. -/
import Derived.Test.YtcjnpklmfcbofaaGreatDoorWb
import Derived.Lib.LaidTab
import Derived.Lib.AppendIntMem
import Derived.WalkSmall
import Derived.Laws.AppendOwn
import Derived.Laws.OwnMore
import Derived.Laws.BytesArg
import Derived.Laws.IdiomStrings
import Derived.RangeFuncNested
import Derived.RangeFuncBound
import Derived.RangeFuncCalls
import Derived.RangeFuncLeaves
import Derived.RangeFuncBox
import Derived.Test.YtcjnpklmfcbofaaGreatDoorShelf
import Derived.Shelf.Abstract
import Derived.Shelf.RegionOpen
import Derived.OwnWalkIn
import Derived.TacticsInMore
import Derived.LoopNIn
import Derived.LoopIn
import Derived.Maps.AppendAt
import Derived.Sort.LoopGhostIn
import Derived.Deep.DeepFit

/- The dates' texts: a year's digits; the four ways to write a date; dates.text and the four texts of a moment. -/
set_option linter.unusedVariables false
set_option linter.unusedSimpArgs false
section
set_option linter.unusedVariables false
set_option linter.unusedSimpArgs false
namespace Go.Proofs.YtcjnpklmfcbofaaGreatDoor
open Go.RowKit Go.Sort

/-- the library's table of powers of ten stands as its text lays it -/
def Tab (w : World) : Prop := Lib.TabIs Tryz.prog w "internal/strconv.uint64pow10" .u64 Lib.pow10Tab

theorem tabNamed : Tryz.prog.globalNamed "internal/strconv.uint64pow10" = some 16 := by kernel_rfl

theorem Tab.lt {w : World} (h : Tab w) : 16 < w.heap.size := cell_lt (Lib.TabIs.cell h tabNamed 0 (by decide))
theorem Tab.below {w w' : World} (h : Tab w) (hb : Below w.heap.size w w') : Tab w' := var?_below hb tabNamed h.lt h

theorem itoa_any (n : Int) (w : World) (h0 : 0 ≤ n) (h1 : n ≤ 9999) (hT : Tab w) : Calls Tryz.prog 36 #[.int .i64 n] w fun e w' => e = .returned (.string (bs (Lib.decDigits n.toNat))) ∧ Below w.heap.size w w' := by
  refine (Tryz.strconv_Itoa n (by omega) (by omega) w hT).mono ?_
  rintro e w' ⟨rfl, k, os, rfl⟩
  exact ⟨ret_str (by unfold Lib.itoa; rw [if_neg (by omega)]), Lib.below_grow _ _ (Nat.le_refl _) _ _⟩

theorem year_len : ∀ n : Nat, n < 130 → (Lib.decDigits (1970 + n)).length ≤ 4 := by decide +kernel
theorem yearL_len (y : Int) (h0 : 1970 ≤ y) (h1 : y ≤ 2099) : (Lib.decDigits y.toNat).length ≤ 4 := by
  have := year_len (y.toNat - 1970) (by omega)
  rwa [show 1970 + (y.toNat - 1970) = y.toNat by omega] at this
theorem clockL_len (h mi s : Int) (h0 : 0 ≤ h) (h1 : h ≤ 23) (i0 : 0 ≤ mi) (i1 : mi ≤ 59) (s0 : 0 ≤ s) (s1 : s ≤ 59) : (clockL h mi s).length ≤ 20 := by
  have l1 := twoL_len h [48] h0 (by omega) (by decide)
  have l2 := twoL_len mi [48] i0 (by omega) (by decide)
  have l3 := twoL_len s [48] s0 (by omega) (by decide)
  unfold clockL
  simp only [List.length_append, List.length_cons, List.length_nil]
  omega

/-- a date field's text, a separator line's, IMAP's, a day -/
def mailL (y m d h mi s wk : Int) : List UInt8 := weekL wk ++ [44, 32] ++ twoL d [48] ++ [32] ++ monthL m ++ [32] ++ Lib.decDigits y.toNat ++ [32] ++ clockL h mi s ++ [32, 43, 48, 48, 48, 48]
def boxL (y m d h mi s wk : Int) : List UInt8 := weekL wk ++ [32] ++ monthL m ++ [32] ++ twoL d [32] ++ [32] ++ clockL h mi s ++ [32] ++ Lib.decDigits y.toNat
def interL (y m d h mi s : Int) : List UInt8 := twoL d [32] ++ [45] ++ monthL m ++ [45] ++ Lib.decDigits y.toNat ++ [32] ++ clockL h mi s ++ [32, 43, 48, 48, 48, 48]
def dayL (y m d : Int) : List UInt8 := Lib.decDigits d.toNat ++ [45] ++ monthL m ++ [45] ++ Lib.decDigits y.toNat

/-- the bounds of a date's parts -/
def Bds (y m d h mi s wk : Int) : Prop := 1970 ≤ y ∧ y ≤ 2099 ∧ 1 ≤ m ∧ m ≤ 12 ∧ 1 ≤ d ∧ d ≤ 31 ∧ 0 ≤ h ∧ h ≤ 23 ∧ 0 ≤ mi ∧ mi ≤ 59 ∧ 0 ≤ s ∧ s ≤ 59 ∧ 0 ≤ wk ∧ wk ≤ 6

set_option maxRecDepth 100000 in
set_option maxHeartbeats 2000000 in
theorem box_cl (y m d h mi s wk : Int) (w : World) (hT : Tab w) (hb : Bds y m d h mi s wk) : Calls Tryz.prog 31 #[.agg #[.int .i64 y, .int .i64 m, .int .i64 d, .int .i64 h, .int .i64 mi, .int .i64 s, .int .i64 wk]] w fun e w' => e = .returned (.string (bs (boxL y m d h mi s wk))) ∧ Below w.heap.size w w' := by
  obtain ⟨y0, y1, m0, m1, d0, d1, h0, h1, i0, i1, s0, s1, k0, k1⟩ := hb
  have l1 := weekL_len wk
  have l2 := twoL_len d [32] (by omega) (by omega) (by decide)
  have l3 := monthL_len m
  have l4 := yearL_len y y0 y1
  have l5 := clockL_len h mi s h0 h1 i0 i1 s0 s1
  obtain ⟨W1, hW1⟩ : ∃ W1, w.alloc (.cells (civA y m d h mi s wk) 64) = W1 := ⟨_, rfl⟩
  have hk : W1.heap[w.heap.size]? = some (.cells (civA y m d h mi s wk) 64 (0, 0)) := by rw [← hW1]; exact heap_new _ _
  have hB : Below w.heap.size w W1 := by rw [← hW1]; exact (Below.refl _ _).alloc (Nat.le_refl _) _
  have hT1 := hT.below hB
  have hTg := fun g : Grow W1 => hT1.below g.h
  obtain ⟨c0, c1, c2, c3, c4, c5, c6, _⟩ := civA_cells hk
  have g0 := fun g : Grow W1 => g.cell c0
  have g1 := fun g : Grow W1 => g.cell c1
  have g2 := fun g : Grow W1 => g.cell c2
  have g3 := fun g : Grow W1 => g.cell c3
  have g4 := fun g : Grow W1 => g.cell c4
  have g5 := fun g : Grow W1 => g.cell c5
  have g6 := fun g : Grow W1 => g.cell c6
  unfold civA at hW1
  have HW := Lib.hid hW1
  clear hk c0 c1 c2 c3 c4 c5 c6 hW1
  go_enter Tryz.func31, Tryz.ntmps31
  go_wp2
  rw [HW.out]
  refine wp_region_grow (by kernel_rfl) (by kernel_rfl) ?_
  repeat (go_big_quiet_step ((first | (go_at_call 32; exact grow_call (week_any _ _ _ _ _ _ _ _ k0 k1)) | (go_at_call 33; exact grow_call (month_any _ _ _ _ _ _ _ _ m0 m1)) | (go_at_call 35; exact grow_call (clock_any _ _ _ _ _ _ _ _ h0 h1 i0 i1 s0 s1)) | (go_at_call 36; exact grow_call (itoa_any _ _ (by omega) (by omega) (hTg _))) | (go_at_call 34; exact grow_same (two_any _ _ _ (by omega) (by omega) (by decide))))))
  refine wpQuiet_nil ?_
  rintro _ ⟨gw, rfl⟩
  go_wp2
  go_ret
  exact ⟨ret_str (by unfold boxL; simp only [← bs_append]), hB.trans (gw.h.mono hB.size)⟩

/-- how the text of a moment in range comes back -/
def mailPost (t : Int) (w : World) (e : Ending) (w' : World) : Prop := ∃ y m d h mi s wk, Cal.civ7 t y m d h mi s wk ∧ e = .returned (.tuple #[.string (bs (mailL y m d h mi s wk)), .nilIface]) ∧ Below w.heap.size w w'

/-- how the text of a moment in range comes back -/
def dboxPost (t : Int) (w : World) (e : Ending) (w' : World) : Prop := ∃ y m d h mi s wk, Cal.civ7 t y m d h mi s wk ∧ e = .returned (.tuple #[.string (bs (boxL y m d h mi s wk)), .nilIface]) ∧ Below w.heap.size w w'

set_option maxRecDepth 100000 in
theorem text_box (t : Int) (w : World) (hT : Tab w) (h0 : 0 ≤ t) (h1 : t ≤ 4102444799) :
    Calls Tryz.prog 30 #[.int .i64 t, .func (.func 31) #[] #[]] w (dboxPost t w) := by
  go_enter Tryz.func30, Tryz.ntmps30
  go_wp2_with fail
  refine (civil_in t _ h0 h1).mono ?_
  rintro e w1 ⟨y, m, d, h, mi, s, wk, hcv, rfl, rfl⟩
  have hbd := Cal.civ7_bd h0 hcv
  have hB : ∀ o : Obj, Below w.heap.size w (((w.alloc (.cells #[.int .i64 y, .int .i64 m, .int .i64 d, .int .i64 h, .int .i64 mi, .int .i64 s, .int .i64 wk] 64)).alloc (.cells #[.int .i64 y, .int .i64 m, .int .i64 d, .int .i64 h, .int .i64 mi, .int .i64 s, .int .i64 wk] 64)).alloc o) := fun o =>
    (((Below.refl _ _).alloc (Nat.le_refl _) _).alloc (by simp) _).alloc (by simp; omega) _
  have HB := Lib.hid hB
  clear hB
  go_wp2_with (go_at_call 31; refine (box_cl y m d h mi s wk _ (hT.below (HB.out _)) hbd).mono ?_; rintro e w2 ⟨rfl, hb2⟩)
  go_ret2
  exact ⟨y, m, d, h, mi, s, wk, hcv, rfl, (HB.out _).trans (hb2.mono (HB.out _).size)⟩

theorem box_in (t : Int) (w : World) (hT : Tab w) (h0 : 0 ≤ t) (h1 : t ≤ 4102444799) :
    Calls Tryz.prog 15 #[.int .i64 t] w (dboxPost t w) := by
  go_enter Tryz.func15, Tryz.ntmps15
  go_wp2_with (go_at_call 30; refine (text_box t _ hT h0 h1).mono ?_; rintro e w2 ⟨y, m, d, h, mi, s, wk, hcv, rfl, hb2⟩)
  go_ret2
  exact ⟨y, m, d, h, mi, s, wk, hcv, rfl, hb2⟩

theorem text_box_out (t : Int) (w : World) (a : Addr) (h : t < 0 ∨ 4102444799 < t) (hc : w.cell? ⟨1, 0, none⟩ = some (.iface 182 (.pointer (some a)))) :
    Calls Tryz.prog 30 #[.int .i64 t, .func (.func 31) #[] #[]] w fun e w' => e = .returned (.tuple #[.string (bs []), .iface 182 (.pointer (some a))]) ∧ Below w.heap.size w w' := by
  go_enter Tryz.func30, Tryz.ntmps30
  go_wp2_with fail
  refine (civil_out t _ _ h hc).mono ?_
  rintro e w1 ⟨rfl, hb⟩
  unfold civ0
  go_wp2
  go_ret2
  exact ⟨rfl, hb.alloc hb.size _⟩

theorem box_out (t : Int) (w : World) (a : Addr) (h : t < 0 ∨ 4102444799 < t) (hc : w.cell? ⟨1, 0, none⟩ = some (.iface 182 (.pointer (some a)))) :
    Calls Tryz.prog 15 #[.int .i64 t] w fun e w' => e = .returned (.tuple #[.string (bs []), .iface 182 (.pointer (some a))]) ∧ Below w.heap.size w w' := by
  go_enter Tryz.func15, Tryz.ntmps15
  go_wp2_with (go_at_call 30; refine (text_box_out t _ a h hc).mono ?_; rintro e w2 ⟨rfl, hb2⟩)
  go_ret2
  exact ⟨rfl, hb2⟩

/-- how the text of a moment in range comes back -/
def interPost (t : Int) (w : World) (e : Ending) (w' : World) : Prop := ∃ y m d h mi s wk, Cal.civ7 t y m d h mi s wk ∧ e = .returned (.tuple #[.string (bs (interL y m d h mi s)), .nilIface]) ∧ Below w.heap.size w w'

/-- how the text of a moment in range comes back -/
def dayPost (t : Int) (w : World) (e : Ending) (w' : World) : Prop := ∃ y m d h mi s wk, Cal.civ7 t y m d h mi s wk ∧ e = .returned (.tuple #[.string (bs (dayL y m d)), .nilIface]) ∧ Below w.heap.size w w'

end Go.Proofs.YtcjnpklmfcbofaaGreatDoor
end

/- mbox (plain): an entry's first line. -/
set_option linter.unusedVariables false
set_option linter.unusedSimpArgs false
section
namespace Go.Proofs.YtcjnpklmfcbofaaGreatDoor

theorem dec_nl : ∀ (f u : Nat), u < f → (10 : UInt8) ∉ Lib.decDigits u
  | 0, u, h => absurd h (by omega)
  | f + 1, u, h => by
    rw [Lib.decDigits.eq_1]
    have hd : ∀ k, k < 10 → (10 : UInt8) ≠ UInt8.ofNat (48 + k) := by
      intro k hk e
      have := congrArg UInt8.toNat e
      rw [UInt8.toNat_ofNat'] at this
      have h10 : (10 : UInt8).toNat = 10 := rfl
      omega
    split
    · rename_i h1
      intro m
      exact hd u h1 (by simpa using m)
    · rename_i h1
      intro m
      rcases List.mem_append.1 m with m | m
      · exact dec_nl f (u / 10) (by omega) m
      · exact hd (u % 10) (by omega) (by simpa using m)
theorem two_nl (n : Int) (a : List UInt8) (ha : (10 : UInt8) ∉ a) : (10 : UInt8) ∉ twoL n a := by
  unfold twoL
  split
  · intro m
    rcases List.mem_append.1 m with m | m
    · exact ha m
    · exact dec_nl _ _ (Nat.lt_succ_self _) m
  · exact dec_nl _ _ (Nat.lt_succ_self _)
theorem week_nl (wk : Int) : (10 : UInt8) ∉ weekL wk := fun h => absurd (List.mem_of_mem_drop (List.mem_of_mem_take h)) (by decide)
theorem month_nl (m : Int) : (10 : UInt8) ∉ monthL m := fun h => absurd (List.mem_of_mem_drop (List.mem_of_mem_take h)) (by decide)
theorem box_nl (y m d h mi s wk : Int) : (10 : UInt8) ∉ boxL y m d h mi s wk := by
  unfold boxL clockL
  simp only [List.mem_append, not_or]
  have t := fun n a ha => two_nl n a ha
  exact ⟨⟨⟨⟨⟨⟨⟨⟨week_nl wk, by decide⟩, month_nl m⟩, by decide⟩, t d [32] (by decide)⟩, by decide⟩, ⟨⟨⟨⟨t h [48] (by decide), by decide⟩, t mi [48] (by decide)⟩, by decide⟩, t s [48] (by decide)⟩⟩, by decide⟩, dec_nl _ _ (Nat.lt_succ_self _)⟩
/-- an entry's first line -/
def headL (sender box : List UInt8) : List UInt8 := fromL ++ sender ++ [32] ++ box ++ [10]
theorem head_ok {sender box : List UInt8} (h1 : (10 : UInt8) ∉ sender) (h2 : (10 : UInt8) ∉ box) : headOk (headL sender box) := by
  refine ⟨?_, fromL ++ sender ++ [32] ++ box, rfl, ?_⟩
  · have e : headL sender box = 70 :: ([114, 111, 109, 32] ++ sender ++ [32] ++ box ++ [10]) := by simp [headL, fromL]
    have hh : headM (headL sender box) = false := by rw [e]; rfl
    unfold sepB looks
    rw [unmark_no _ hh, hh]
    simp [headL, fromL]
  · intro c hc e
    subst e
    simp only [List.mem_append] at hc
    rcases hc with ((hc | hc) | hc) | hc
    · exact absurd hc (by decide)
    · exact h1 hc
    · exact absurd hc (by decide)
    · exact h2 hc

end Go.Proofs.YtcjnpklmfcbofaaGreatDoor
end

/- Slices of bytes, as lists. -/
set_option linter.unusedVariables false
set_option linter.unusedSimpArgs false
section
namespace Go.Proofs.YtcjnpklmfcbofaaGreatDoor
open Go.RowKit

/-- a slice of bytes reads as the list l -/
def BytesAt (w : World) (v : Value) (l : List UInt8) : Prop :=
  (v = .slice none 0 0 ∧ l = []) ∨ ∃ (sb so cap : Nat), v = .slice (some ⟨sb, so, none⟩) l.length cap ∧ ∀ i, i < l.length → w.cell? ⟨sb, so + i, none⟩ = some (.int .u8 (l.getD i 0).toNat)

theorem bs_strOfNums (l : List UInt8) : strOfNums (l.map fun c => ((c.toNat : Nat) : Int)) = bs l := by
  apply ByteArray.ext
  apply Array.toList_inj.1
  rw [strOfNums_data]
  simp [Function.comp_def]

theorem convert_bytes {w : World} {v : Value} {l : List UInt8} (h : BytesAt w v l) : (convert 54 9 v).run Tryz.prog w = .ok (.string (bs l)) w := by
  rcases h with ⟨rfl, rfl⟩ | ⟨sb, so, cap, rfl, hc⟩
  · exact run_convert_bytes_nil w 54 5 Tryz.underlying54 Tryz.underlying5 0 0 9 Tryz.underlying9
  · rw [← bs_strOfNums]
    refine run_convert_bytes_arg w 54 5 Tryz.underlying54 Tryz.underlying5 sb so l.length cap _ (by simp) (fun i hi => ?_) 9 Tryz.underlying9
    rw [hc i hi]
    simp [List.getD, hi]

theorem info_u8 : (Tryz.prog.info? 5).map (fun i => (i.zero, i.size, i.bytes)) = some (some (.int .u8 0), 1, 1) := by kernel_rfl

/-- bytes as cells -/
def cellsB (l : List UInt8) : List Value := l.map fun c => .int .u8 ((c.toNat : Nat) : Int)
theorem cellsB_length (l : List UInt8) : (cellsB l).length = l.length := by simp [cellsB]
theorem cellsB_append (a b : List UInt8) : cellsB (a ++ b) = cellsB a ++ cellsB b := by simp [cellsB]

/-- a slice of bytes that the call itself made -/
def OwnB (w : World) (base : Nat) (v : Value) (l : List UInt8) : Prop := w.ownsRow base 5 1 v l.length (cellsB l)

theorem OwnB.bytes {w : World} {base : Nat} {v : Value} {l : List UInt8} (h : OwnB w base v l) : BytesAt w v l := by
  rcases h.2 with ⟨rfl, h0⟩ | ⟨g, cap, cur, rfl, _, hg, _, _, _, ht⟩
  · exact Or.inl ⟨rfl, List.eq_nil_of_length_eq_zero h0⟩
  · refine Or.inr ⟨g, 0, cap, rfl, fun i hi => ?_⟩
    have e : (cellsB l)[i]? = some (.int .u8 (l.getD i 0).toNat) := by simp [cellsB, hi]
    rw [← ht, List.getElem?_take, if_pos (by omega)] at e
    simp only [World.cell?, hg, Nat.zero_add]
    simpa using e

theorem OwnB.step {w' : World} {base : Nat} {v' : Value} {l : List UInt8} {c : UInt8} (h : w'.ownsRow base 5 1 v' (l.length + 1) (cellsB l ++ [.int .u8 ((c.toNat : Nat) : Int)])) : OwnB w' base v' (l ++ [c]) := by
  unfold OwnB
  rw [cellsB_append, List.length_append]
  exact h

theorem OwnB.form {w : World} {base : Nat} {v : Value} {l : List UInt8} (h : OwnB w base v l) : ∃ a n cap, v = .slice a n cap ∧ Hid (n = l.length) := by
  rcases h.2 with ⟨rfl, h0⟩ | ⟨g, cap, cur, rfl, _, _, _, _, _, _⟩
  · exact ⟨none, 0, 0, rfl, h0.symm⟩
  · exact ⟨_, _, _, rfl, rfl⟩

theorem OwnB.below {B : Nat} {u w w' : World} {v : Value} {l : List UInt8} (hb : Below B u w) (h : OwnB w B v l) (hg : w.grownBy w' v.ownBlock) (hB : B ≤ w.heap.size) : Below B u w' :=
  hb.grown hg hB (fun k e => (World.ownsRow.lt h k e).1)


end Go.Proofs.YtcjnpklmfcbofaaGreatDoor
end

/- []byte(s). -/
set_option linter.unusedVariables false
set_option linter.unusedSimpArgs false
section
namespace Go.Proofs.YtcjnpklmfcbofaaGreatDoor
open Go.RowKit

theorem to_bytes (l : List UInt8) (w : World) : ∃ (cap : Nat) (w' : World), (convert 9 54 (.string (bs l))).run Tryz.prog w = .ok (.slice (some ⟨w.heap.size, 0, none⟩) l.length cap) w' ∧
    (∀ i, i < l.length → w'.cell? ⟨w.heap.size, i, none⟩ = some (.int .u8 ((l.getD i 0).toNat : Int))) ∧ Below w.heap.size w w' ∧ w.heap.size < w'.heap.size := by
  have h := run_bytes_of_string (P := Tryz.prog) w 9 54 5 (bs l) Tryz.underlying9 Tryz.underlying54 Tryz.underlying5
  rw [bs_size] at h
  refine ⟨_, _, h, fun i hi => ?_, ((Below.refl _ w).drew).alloc (Nat.le_refl _) _, by simp⟩
  have hb := bytesRow_at (bs l) (grownCap w l.length 0 5) i (by simpa using hi)
  have hn : (w.drew.alloc (.cells (bytesRow (bs l) (grownCap w l.length 0 5)) 5 ((bytesRow (bs l) (grownCap w l.length 0 5)).size, (bytesRow (bs l) (grownCap w l.length 0 5)).size + 1))).heap[w.heap.size]? = some (.cells (bytesRow (bs l) (grownCap w l.length 0 5)) 5 ((bytesRow (bs l) (grownCap w l.length 0 5)).size, (bytesRow (bs l) (grownCap w l.length 0 5)).size + 1)) := heap_new w.drew _
  simp only [World.cell?, hn]
  simp only [Option.isSome_none, Bool.false_eq_true, if_false]
  rw [hb]
  simp [List.getD, hi]

end Go.Proofs.YtcjnpklmfcbofaaGreatDoor
end

/- mbox: right. -/
set_option linter.unusedVariables false
set_option linter.unusedSimpArgs false
section
namespace Go.Proofs.YtcjnpklmfcbofaaGreatDoor
open Go.RowKit

def offC (c : UInt8) : Bool := decide ((c.toNat : Int) < 33) || decide (126 < (c.toNat : Int))
def senderOk (s : List UInt8) : Bool := s.all (fun c => !offC c) && decide (1 ≤ s.length ∧ s.length ≤ 200)
theorem sender_nl {s : List UInt8} (h : senderOk s = true) : (10 : UInt8) ∉ s := by
  unfold senderOk at h
  rw [Bool.and_eq_true, List.all_eq_true] at h
  intro m
  have := h.1 10 m
  exact absurd this (by decide)

set_option maxRecDepth 100000 in
set_option maxHeartbeats 1000000 in
theorem right_any (s : List UInt8) (w : World) (hl : s.length ≤ 1099511627776) : Calls Tryz.prog 14 #[.string (bs s)] w fun e w' => e = .returned (.bool (senderOk s)) ∧ Below w.heap.size w w' := by
  obtain ⟨A, hA⟩ : ∃ A, senderOk s = A := ⟨_, rfl⟩
  rw [hA]
  have HA := Lib.hid hA
  clear hA
  obtain ⟨cap, w2, hconv, hcells, hb2, hlt2⟩ := to_bytes s w
  have HC := Lib.hid hcells
  clear hcells
  go_enter Tryz.func14, Tryz.ntmps14
  go_wp2
  clear hconv
  go_loop [8] (fun i => ∃ k : Nat, k ≤ s.length ∧ i = .int .i64 k ∧ Hid (((s.drop k).all (fun c => !offC c) && decide (1 ≤ s.length ∧ s.length ≤ 200)) = A)) (fun i => s.length - (intOf i).toNat)
  case atStart => exact ⟨0, Nat.zero_le _, rfl, HA.out⟩
  case round =>
    obtain ⟨k, hk, rfl, hok⟩ := hrel
    by_cases hlt : k < s.length
    · have hck := HC.out k hlt
      have hlt' : (k : Int) < s.length := by omega
      obtain ⟨c, hc⟩ : ∃ c, s.getD k 0 = c := ⟨_, rfl⟩
      rw [hc] at hck
      have hr2 := hok.out
      rw [show s.drop k = c :: s.drop (k + 1) by rw [List.drop_eq_getElem_cons hlt, ← hc]; simp [List.getD, hlt], List.all_cons] at hr2
      have HR := Lib.hid hr2
      clear hc hr2 hok
      have fin : ∀ b, offC c = b → (b = true → A = false) ∧ (b = false → Hid (((s.drop (k + 1)).all (fun c => !offC c) && decide (1 ≤ s.length ∧ s.length ≤ 200)) = A)) := by
        intro b hb
        have := HR.out
        rw [hb] at this
        refine ⟨fun h => ?_, fun h => ?_⟩
        · rw [h] at this; simpa using this.symm
        · rw [h] at this; show _ = _; simpa using this
      rcases h1 : decide ((c.toNat : Int) < 33) with _ | _
      · rcases h2 : decide (126 < (c.toNat : Int)) with _ | _
        · have hgo := (fin false (by unfold offC; rw [h1, h2]; rfl)).2 rfl
          clear fin HR
          go_wp2
          go_round
          case rel => exact ⟨k + 1, by omega, by go_num, hgo.out⟩
          case measure => simp [intOf]; omega
        · have hA := (fin true (by unfold offC; rw [h1, h2]; rfl)).1 rfl
          subst hA
          clear fin HR
          go_wp2
          go_ret
          exact ⟨rfl, hb2⟩
      · have hA := (fin true (by unfold offC; rw [h1]; rfl)).1 rfl
        subst hA
        clear fin HR
        go_wp2
        go_ret
        exact ⟨rfl, hb2⟩
    · obtain rfl : k = s.length := by omega
      have hr2 := hok.out
      rw [List.drop_length] at hr2
      have hr3 : decide (1 ≤ s.length ∧ s.length ≤ 200) = A := by rw [← hr2]; simp
      clear hok hr2
      by_cases q1 : 1 ≤ s.length
      · have q1' : (1 : Int) ≤ s.length := by omega
        by_cases q2 : s.length ≤ 200
        · have q2' : (s.length : Int) ≤ 200 := by omega
          have hA : A = true := by rw [← hr3, decide_eq_true ⟨q1, q2⟩]
          subst hA
          clear hr3
          go_wp2
          go_ret
          exact ⟨rfl, hb2⟩
        · have q2' : ¬ (s.length : Int) ≤ 200 := by omega
          have hA : A = false := by rw [← hr3, decide_eq_false (fun h => q2 h.2)]
          subst hA
          clear hr3
          go_wp2
          go_ret
          exact ⟨rfl, hb2⟩
      · have q1' : ¬ (1 : Int) ≤ s.length := by omega
        have hA : A = false := by rw [← hr3, decide_eq_false (fun h => q1 h.1)]
        subst hA
        clear hr3
        go_wp2
        go_ret
        exact ⟨rfl, hb2⟩

end Go.Proofs.YtcjnpklmfcbofaaGreatDoor
end

/- A range over a function whose iterator keeps its state in a cell of its own (strings.Lines): the statement's law. -/
set_option linter.unusedVariables false
set_option linter.unusedSimpArgs false
section
namespace Go.Proofs.YtcjnpklmfcbofaaGreatDoor
open Go.RowKit Go

variable {F : Fence} {n : Nat} {P : Program}

/-- J stays whatever becomes of block b. -/
def AbidesBox {β : Type} (b : Nat) (J : β → World → Prop) : Prop := ∀ s W W', J s W → W.grownBy W' (some b) → J s W'
theorem AbidesBox.and {β : Type} {b : Nat} {I I' : β → World → Prop} (h : AbidesBox b I) (h' : AbidesBox b I') : AbidesBox b (fun s W => I s W ∧ I' s W) := fun s W W' hs hg => ⟨h s W W' hs.1 hg, h' s W W' hs.2 hg⟩
theorem abidesBox_size {β : Type} {b k : Nat} : AbidesBox b (fun (_ : β) W => k ≤ W.heap.size) := fun _ _ _ h hg => Nat.le_trans h hg.size
theorem ownFrom_size {β : Type} {B k : Nat} : OwnFrom B (fun (_ : β) W => k ≤ W.heap.size) := fun _ _ _ _ h hg _ => Nat.le_trans h hg.size
theorem abidesBox_below {β : Type} {b n₀ : Nat} {w₀ : World} (hn : n₀ ≤ b) (hs : n₀ ≤ w₀.heap.size) : AbidesBox b (fun (_ : β) W => Below n₀ w₀ W) := fun _ _ _ h hg => h.grown hg (Nat.le_trans hs h.size) (fun k e => by cases e; exact hn)

/-- An iterator over xs whose state lies in block b, where v stands at the beginning: the caller's rounds leave b alone. -/
def SeqBox {α : Type} (F : Fence) (n : Nat) (P : Program) (g : Nat) (b : Nat) (t : TypeId) (enc : α → Value) (xs : List α) (v : Value) : Prop :=
  ∀ (l : Nat) (J Jx : List α → World → Prop) (W : World), AbidesBox b J → AbidesBox b Jx →
    (∀ pre x W1, pre ++ [x] <+: xs → J pre W1 → YieldAt F (n - 1) P l #[enc x] W1 fun e W' =>
      (e = .returned (.bool true) ∧ J (pre ++ [x]) W' ∧ W'.heap[b]? = W1.heap[b]?) ∨ (e = .returned (.bool false) ∧ Jx (pre ++ [x]) W')) →
    J [] W → Boxed W b t v →
    CallsIn F n P g #[.func (.yield l) #[] #[], .pointer (some ⟨b, 0, none⟩)] W fun e W' => (∃ v, e = .returned v) ∧ (J xs W' ∨ ∃ pre, pre <+: xs ∧ Jx pre W')

/-- How the body of a round may be left. -/
def boxPost {α : Type} (B b : Nat) (I : List α → World → Prop) (Ix : Code → List α → World → Prop) (xs : List α) (W : World) : Exit → Act → World → Prop
  | .normal, _, W' => KeepsFrom B W W' ∧ W'.heap[b]? = W.heap[b]? ∧ I xs W'
  | .ret, _, W' => KeepsFrom B W W' ∧ Ix .ret xs W'
  | .exit id, _, W' => KeepsFrom B W W' ∧ Ix (.exit id) xs W'
  | .goto t, _, W' => KeepsFrom B W W' ∧ Ix (.goto t) xs W'
  | .panic _, _, _ => False
  | .outgrown, _, _ => False

theorem heap_grown {W W' : World} {b k : Nat} {o : Obj} (hg : W.grownBy W' (some b)) (h : k ≠ b) (ho : W.heap[k]? = some o) : W'.heap[k]? = some o :=
  (hg.block k (Array.getElem?_eq_some_iff.1 ho).1 (fun e => h (Option.some.inj e))).trans ho

/-- **for x := range g { .. } where g's state lies in block b.** -/
theorem wpIn_rangeFunc_box {α : Type} {g : Operand} {ps : Array Tmp} {assign body : Code} {Q : Exit → Act → World → Prop} {a : Act} {w : World}
    (hro : F.round = none) (h1 : 1 ≤ n) {gf b : Nat} {t : TypeId} (hg : a.eval g = .func (.func gf) #[] #[.pointer (some ⟨b, 0, none⟩)]) (hFg : F.fn gf) (eg : ∀ args w, (callFunc gf args).run P w = .ok (.enter gf args) w)
    {enc : α → Value} {xs : List α} {v : Value} (hseq : SeqBox F (n - 1) P gf b t enc xs v) (hbox : Boxed w b t v) (hps : ps.size = 1)
    (I : List α → World → Prop) (Ix : Code → List α → World → Prop) (hI : OwnFrom w.heap.size I) (hIx : ∀ c, OwnFrom w.heap.size (Ix c)) (hIb : AbidesBox b I) (hIxb : ∀ c, AbidesBox b (Ix c)) (h0 : I [] w) (a₁ : α → Act)
    (hassign : ∀ (l : Nat) (x : α) (W : World) (K : Act → World → Prop), K (a₁ x) W →
      assign.wpIn (F.inRound l) (n - 1 - 1) P (Exit.then K (fun _ _ _ => False)) { tmps := (ps.zip #[enc x]).foldl (fun t (p, v) => t.setIfInBounds p v) a.tmps, defers := [] } W)
    (hbody : ∀ (l : Nat) (pre : List α) (x : α) (W : World), pre ++ [x] <+: xs → I pre W → body.wpIn (F.inRound l) (n - 1 - 1) P (boxPost w.heap.size b I Ix (pre ++ [x]) W) (a₁ x) W)
    (hdone : ∀ (D : Nat) (W : World), w.heap.size ≤ D → I xs W → W.heap[D]? = some (.deferred (some [])) → Q .normal { a with defers := { target := .collected D, args := #[] } :: a.defers } W)
    (hstop : ∀ (D : Nat) (c : Code) (pre : List α) (W : World), w.heap.size ≤ D → pre <+: xs → Ix c pre W → W.heap[D]? = some (.deferred (some [])) → c.wpIn F n P Q { a with defers := { target := .collected D, args := #[] } :: a.defers } W) :
    (Code.rangeFunc g ps assign body).wpIn F n P Q a w := by
  have hbl : b < w.heap.size := hbox.lt
  refine wpIn_rangeFunc ?_
  intro fn hfn
  rw [hro]
  obtain ⟨rec, hrec⟩ : ∃ rec : LoopState → Option Code → Loop, rec = fun st pe => { state := st, pending := pe, fn, tmps := a.tmps, params := ps, assign, body, defers := w.heap.size } := ⟨_, rfl⟩
  obtain ⟨W1, hW1⟩ : ∃ W1, (w.alloc (.deferred (some []))).alloc (.loop (rec .ready none)) = W1 := ⟨_, rfl⟩
  have hL1 : W1.heap[w.heap.size + 1]? = some (.loop (rec .ready none)) := by
    rw [← hW1]; have := World.alloc_heap_new (w.alloc (.deferred (some []))) (.loop (rec .ready none)); rwa [World.size_alloc] at this
  have hK1 : W1.heap[w.heap.size]? = some (.deferred (some [])) := by
    rw [← hW1]; exact (Below.heap_alloc _ _ _ (by simp)).trans (World.alloc_heap_new w _)
  have hI1 : I [] W1 := by rw [← hW1]; exact hI.alloc _ (hI.alloc _ h0)
  have hb1 : Boxed W1 b t v := by rw [← hW1]; exact (hbox.alloc _).alloc _
  refine ⟨w.heap.size + 1, [{ target := .collected w.heap.size, args := #[] }], W1, { target := .fn (.func gf) #[.pointer (some ⟨b, 0, none⟩)], args := #[.func (.yield (w.heap.size + 1)) #[] #[]] }, W1, gf,
    #[.func (.yield (w.heap.size + 1)) #[] #[]] ++ #[.pointer (some ⟨b, 0, none⟩)], W1, ?_, ?_, ?_, ?_, fun _ => h1, ?_⟩
  · rw [← hW1, hrec]; exact run_enterLoop_outer _ _ _ _ _
  · simp only [resolve, hg]
    simp [go_sem]
  · intro f' hf'; simp [Target.leads] at hf'; subst hf'; exact hFg
  · simp [invoke, go_sem, eg]
  · refine (hseq (w.heap.size + 1)
      (fun pre W => I pre W ∧ W.heap[w.heap.size + 1]? = some (.loop (rec .ready none)) ∧ W.heap[w.heap.size]? = some (.deferred (some [])))
      (fun pre W => ∃ c, Ix c pre W ∧ W.heap[w.heap.size + 1]? = some (.loop (rec .done (some c))) ∧ W.heap[w.heap.size]? = some (.deferred (some [])))
      W1 (fun s A u hs hg => ⟨hIb _ _ _ hs.1 hg, heap_grown hg (by omega) hs.2.1, heap_grown hg (by omega) hs.2.2⟩)
      (fun s A u hs hg => by
        obtain ⟨c, hc, hl, hk⟩ := hs
        exact ⟨c, hIxb _ _ _ _ hc hg, heap_grown hg (by omega) hl, heap_grown hg (by omega) hk⟩)
      ?_ ⟨hI1, hL1, hK1⟩ hb1).mono ?_
    · rintro pre x W hpre ⟨hi, hl, hk⟩
      have hlt : w.heap.size + 1 < W.heap.size := (Array.getElem?_eq_some_iff.1 hl).1
      have hy := run_yield (P := P) (args := #[enc x]) hl (by rw [hrec]; exact hps.symm)
      rw [hrec] at hy
      refine ⟨fn, _, assign, body, hy, roundIn_of_wpIn hfn (hassign _ x W _ ⟨_, run_beginRound hl (by rw [hrec]), ?_⟩)⟩
      have hl2 : (W.putObj (w.heap.size + 1) (.loop { rec .ready none with state := .busy })).heap[w.heap.size + 1]? = some (.loop { rec .ready none with state := .busy }) := World.putObj_heap_same hlt
      have hk2 : (W.putObj (w.heap.size + 1) (.loop { rec .ready none with state := .busy })).heap[w.heap.size]? = some (.deferred (some [])) := (World.putObj_heap_other (by omega)).trans hk
      have hw2 : (W.putObj (w.heap.size + 1) (.loop { rec .ready none with state := .busy })).heap[b]? = W.heap[b]? := World.putObj_heap_other (by omega)
      refine wpIn_mono (hbody _ pre x _ hpre (hI.putObj _ hi (by omega) hl rfl)) ?_
      have fin : ∀ (jump : Option Code) (W3 : World), KeepsFrom w.heap.size (W.putObj (w.heap.size + 1) (.loop { rec .ready none with state := .busy })) W3 →
          (Instr.endRound (w.heap.size + 1) jump).run P W3 = .ok (.bool jump.isNone) (W3.putObj (w.heap.size + 1) (.loop (rec (if jump.isNone then .ready else .done) jump))) ∧
          W3.heap[w.heap.size + 1]? = some (.loop { rec .ready none with state := .busy }) ∧
          (W3.putObj (w.heap.size + 1) (.loop (rec (if jump.isNone then .ready else .done) jump))).heap[w.heap.size + 1]? = some (.loop (rec (if jump.isNone then .ready else .done) jump)) ∧
          (W3.putObj (w.heap.size + 1) (.loop (rec (if jump.isNone then .ready else .done) jump))).heap[w.heap.size]? = some (.deferred (some [])) := fun jump W3 hk3 => by
        have hl3 := hk3.same _ _ (by omega) hl2 rfl
        have := run_endRound (P := P) jump hl3
        rw [hrec] at this ⊢
        exact ⟨this, by rw [hrec] at hl3; exact hl3, World.putObj_heap_same (Array.getElem?_eq_some_iff.1 hl3).1, (World.putObj_heap_other (by omega)).trans (hk3.same _ _ (Nat.le_refl _) hk2 rfl)⟩
      rintro e a3 W3 hp
      cases e with
      | normal =>
        obtain ⟨hk3, hkp3, hi3⟩ := hp
        obtain ⟨hr, hl3, hl4, hk4⟩ := fin none W3 hk3
        exact ⟨_, _, hr, .inl ⟨rfl, ⟨hI.putObj _ hi3 (by omega) hl3 rfl, hl4, hk4⟩, (World.putObj_heap_other (by omega)).trans (hkp3.trans hw2)⟩⟩
      | ret =>
        obtain ⟨hk3, hi3⟩ := hp
        obtain ⟨hr, hl3, hl4, hk4⟩ := fin (some .ret) W3 hk3
        exact ⟨_, _, hr, .inr ⟨rfl, .ret, (hIx _).putObj _ hi3 (by omega) hl3 rfl, hl4, hk4⟩⟩
      | exit id =>
        obtain ⟨hk3, hi3⟩ := hp
        obtain ⟨hr, hl3, hl4, hk4⟩ := fin (some (.exit id)) W3 hk3
        exact ⟨_, _, hr, .inr ⟨rfl, .exit id, (hIx _).putObj _ hi3 (by omega) hl3 rfl, hl4, hk4⟩⟩
      | goto t =>
        obtain ⟨hk3, hi3⟩ := hp
        obtain ⟨hr, hl3, hl4, hk4⟩ := fin (some (.goto t)) W3 hk3
        exact ⟨_, _, hr, .inr ⟨rfl, .goto t, (hIx _).putObj _ hi3 (by omega) hl3 rfl, hl4, hk4⟩⟩
      | panic ch => exact hp.elim
      | outgrown => exact hp.elim
    · rintro e W2 ⟨⟨v, rfl⟩, (⟨hi, hl, hk⟩ | ⟨pre, hSp, c, hi, hl, hk⟩)⟩
      · exact ⟨none, _, by have := run_endLoop (P := P) hl (by rw [hrec]; simp); rw [hrec] at this; exact this, hdone _ _ (Nat.le_refl _) (hI.putObj _ hi (by omega) hl rfl) ((World.putObj_heap_other (by omega)).trans hk)⟩
      · exact ⟨some c, _, by have := run_endLoop (P := P) hl (by rw [hrec]; simp); rw [hrec] at this; exact this, hstop _ c pre _ (Nat.le_refl _) hSp ((hIx c).putObj _ hi (by omega) hl rfl) ((World.putObj_heap_other (by omega)).trans hk)⟩

/-- out = append(out, ..) into a variable's box, the row's base and what lies below apart -/
theorem boxed_appended {W w1 : World} {n₀ m₀ B : Nat} {t e : TypeId} {size : Nat} {v v' : Value} {k m : Nat} {xs ys : List Value} {tmp : Obj}
    (hv : Boxed W B t v) (hte : t ≠ e) (hrow : W.ownsRow n₀ e size v k xs) (hm : m₀ ≤ n₀) (hn₀ : m₀ ≤ W.heap.size) (hB : m₀ ≤ B)
    (hown' : w1.ownsRow n₀ e size v' m ys) (hgrow : (W.alloc tmp).grownBy w1 v.ownBlock) :
    Boxed w1 B t v ∧ Boxed (w1.setCell ⟨B, 0, none⟩ v') B t v' ∧ (w1.setCell ⟨B, 0, none⟩ v').ownsRow n₀ e size v' m ys ∧ KeepsOthers W (w1.setCell ⟨B, 0, none⟩ v') ∧ Below m₀ W (w1.setCell ⟨B, 0, none⟩ v') ∧
      ∀ b, b < W.heap.size → b < n₀ → b ≠ B → (w1.setCell ⟨B, 0, none⟩ v').heap[b]? = W.heap[b]? := by
  have hv1 : Boxed w1 B t v := (hv.alloc tmp).kept hgrow (hv.not_row hte hrow)
  have hlt := World.ownsRow.lt hrow
  refine ⟨hv1, hv1.set v', hown'.kept (grownBy_setCell' w1 B v') (.inr (hv1.not_row hte hown').symm), ?_, ?_, ?_⟩
  · refine ((KeepsOthers.alloc W tmp).trans (KeepsOthers.of_grownBy hgrow fun j o ej hj => ?_)).trans (KeepsOthers.setCell _ _ _)
    rcases (hrow.alloc tmp).2 with ⟨rfl, _⟩ | ⟨g, cap, cur, rfl, _, hgb, _⟩
    · simp [Value.ownBlock] at ej
    · obtain rfl : g = j := by simpa [Value.ownBlock] using ej
      rw [hgb] at hj; cases hj; rfl
  · refine (((Below.refl m₀ W).alloc hn₀ tmp).grown hgrow (by simp; omega) fun j ej => Nat.le_trans hm (hlt j ej).1).setCell (p := ⟨B, 0, none⟩) hB v'
  · intro b hb hbn hbB
    rw [Below.heap_setCell _ _ _ _ (by simpa using hbB), hgrow.block b (by simp; omega) (fun e => by have := (hlt b e.symm).1; omega), Below.heap_alloc _ _ _ hb]

end Go.Proofs.YtcjnpklmfcbofaaGreatDoor
end

/- strings.Lines as an iterator. -/
set_option linter.unusedVariables false
set_option linter.unusedSimpArgs false
section
namespace Go.Proofs.YtcjnpklmfcbofaaGreatDoor
open Go.RowKit Go Go.Shelf
attribute [local go_sem] Oper.semAt_some

theorem index_yes (h s r : List UInt8) (w : World) (e : cutNl h = some (s, r)) : Calls Tryz.prog 91 #[.string (bs h), .int .u8 10] w fun e w' => e = .returned (.int .i64 (s.length : Int)) ∧ w = w' := by
  refine (Tryz.strings_IndexByte (bs h) 10 w).mono fun _ _ ⟨a, b⟩ => ⟨?_, b.symm⟩
  rw [a]
  exact congrArg (fun x => Ending.returned (.int .i64 x)) (index_some e)
theorem index_no (h : List UInt8) (w : World) (e : cutNl h = none) : Calls Tryz.prog 91 #[.string (bs h), .int .u8 10] w fun e w' => e = .returned (.int .i64 (-1)) ∧ w = w' := by
  refine (Tryz.strings_IndexByte (bs h) 10 w).mono fun _ _ ⟨a, b⟩ => ⟨?_, b.symm⟩
  rw [a]
  exact congrArg (fun x => Ending.returned (.int .i64 x)) (index_none e)

theorem grown_drew {W W' : World} {row : Option Nat} (h : W.grownBy W' row) : W.grownBy W'.drew row := ⟨h.os, h.tape, h.output, h.size, h.block⟩
theorem grown_set (W : World) (b : Nat) (v : Value) : W.grownBy (W.setCell ⟨b, 0, none⟩ v) (some b) := grownBy_setCell' W b v

set_option maxRecDepth 100000 in
set_option maxHeartbeats 2000000 in
theorem lines_seq (n : Nat) (hn : 1 ≤ n) (b : Nat) (s : List UInt8) (hs : s.length ≤ 140737488355328) :
    SeqBox Fence.wide n Tryz.prog 90 b 9 (fun x => .string (bs x)) (linesOf s) (.string (bs s)) := by
  intro l J Jx W hJ hJx hY h0 hb
  refine callsIn_of_wp Tryz.func90 rfl trivial ?_ rfl
  simp only [Tryz.ntmps90, List.size_toArray, List.length_cons, List.length_nil, Nat.reduceAdd, Nat.reduceSub, Array.replicate_succ, Array.replicate_zero, List.push_toArray, List.append_toArray, List.nil_append, List.cons_append]
  gi_wp2
  gi_loopg [3, 4] s.length (fun kq _ _ wr => ∃ pre rest : List _, kq = rest.length ∧ Hid (pre ++ linesOf rest = linesOf s) ∧ rest.length ≤ s.length ∧ Boxed wr b 9 (.string (bs rest)) ∧ J pre wr)
  case atStart => exact ⟨[], s, rfl, rfl, Nat.le_refl _, hb, h0⟩
  case round =>
    obtain ⟨pre, rest, rfl, hp, hlen, hbx, hj⟩ := hrel
    have hc := hbx.cell
    have hf := hbx.frozen
    cases hcut : cutNl rest with
    | none =>
      by_cases he : rest = []
      · subst he
        gi_wp2
        go_end0
        exact ⟨⟨_, rfl⟩, .inl (by have := hp.out; rw [linesOf_nil, List.append_nil] at this; rw [← this]; exact hj)⟩
      · have h0l : 0 < rest.length := List.length_pos_iff.2 he
        have Hc := Lib.hid hcut
        have hlo := linesOf_cutNo hcut he
        have hpre : pre ++ [rest] <+: linesOf s := by rw [← hp.out, hlo]; exact List.prefix_rfl
        have hj2 := hJ pre _ _ hj (grown_set wr b (.string ⟨#[]⟩))
        obtain ⟨fn, tmps, assign, body, hy, hR⟩ := hY pre rest _ hpre hj2
        have Hlo := Lib.hid hlo
        clear hcut hlo
        gi_wp2_with (refine ⟨trivial, ?_⟩; gi_at_call 91; refine (callsIn_wide.2 (index_no _ _ Hc.out)).mono ?_; rintro e w' ⟨rfl, rfl⟩)
        refine hR.mono ?_
        rintro e W3 (⟨rfl, hJ3, hk3⟩ | ⟨rfl, hJx3⟩)
        · gi_wp2
          gi_roundg 0
          case measure => exact h0l
          case rel => exact ⟨pre ++ [rest], [], rfl, by have := hp.out; rw [Hlo.out] at this; rw [linesOf_nil, List.append_nil]; exact this, Nat.zero_le _, hk3.trans (hbx.set _), hJ3⟩
        · gi_wp2
          refine bodyPost_ret (results_none rfl _ _ _) rfl ?_
          exact ⟨⟨_, rfl⟩, .inr ⟨_, hpre, hJx3⟩⟩
    | some q =>
      obtain ⟨a, r⟩ := q
      obtain ⟨hrest, _⟩ := cutNl_some hcut
      have hll : rest.length = a.length + 1 + r.length := by rw [hrest]; simp; omega
      have h0l : 0 < rest.length := by omega
      have hla : a.length + 1 ≤ rest.length := by omega
      have hlr : r.length < rest.length := by omega
      have h1 := run_to rest (a.length + 1) hla
      have h2 := run_from rest (a.length + 1) hla
      rw [show rest.take (a.length + 1) = a ++ [10] by rw [hrest, show a ++ 10 :: r = (a ++ [10]) ++ r by simp]; exact List.take_left' (by simp), show ((a.length + 1 : Nat) : Int) = (a.length : Int) + 1 by simp] at h1
      rw [show rest.drop (a.length + 1) = r by rw [hrest, show a ++ 10 :: r = (a ++ [10]) ++ r by simp]; exact List.drop_left' (by simp), show ((a.length + 1 : Nat) : Int) = (a.length : Int) + 1 by simp] at h2
      have Hc := Lib.hid hcut
      have hlo := linesOf_cut hcut
      have hpre : pre ++ [a ++ [10]] <+: linesOf s := by rw [← hp.out, hlo]; exact ⟨linesOf r, by simp⟩
      have hj2 := hJ pre _ _ hj (grown_drew (grown_set wr b (.string (bs r))))
      obtain ⟨fn, tmps, assign, body, hy, hR⟩ := hY pre (a ++ [10]) _ hpre hj2
      have Hlo := Lib.hid hlo
      have d0 : decide (0 ≤ (a.length : Int)) = true := by simp
      clear hcut hlo hrest hll
      gi_wp2_with (refine ⟨trivial, ?_⟩; gi_at_call 91; refine (callsIn_wide.2 (index_yes _ _ _ _ Hc.out)).mono ?_; rintro e w' ⟨rfl, rfl⟩)
      gi_region
      gi_wp2
      refine hR.mono ?_
      rintro e W3 (⟨rfl, hJ3, hk3⟩ | ⟨rfl, hJx3⟩)
      · gi_wp2
        gi_roundg r.length
        case measure => exact hlr
        case rel => exact ⟨pre ++ [a ++ [10]], r, rfl, by have := hp.out; rw [Hlo.out] at this; rw [← this]; show _ = _; simp, by omega, hk3.trans (hbx.set _), hJ3⟩
      · gi_wp2
        refine bodyPost_ret (results_none rfl _ _ _) rfl ?_
        exact ⟨⟨_, rfl⟩, .inr ⟨_, hpre, hJx3⟩⟩

end Go.Proofs.YtcjnpklmfcbofaaGreatDoor
end

/- Slices of strings, as lists; strings.Join without a separator. -/
set_option linter.unusedVariables false
set_option linter.unusedSimpArgs false
section
namespace Go.Proofs.YtcjnpklmfcbofaaGreatDoor
open Go.RowKit

theorem info_str : (Tryz.prog.info? 9).map (fun i => (i.zero, i.size, i.bytes)) = some (some (.string ⟨#[]⟩), 1, 16) := by kernel_rfl

/-- strings as cells -/
def cellsS (ls : List (List UInt8)) : List Value := ls.map fun s => .string (bs s)
theorem cellsS_length (l : List (List UInt8)) : (cellsS l).length = l.length := by simp [cellsS]
theorem cellsS_append (a b : List (List UInt8)) : cellsS (a ++ b) = cellsS a ++ cellsS b := by simp [cellsS]

/-- a slice of strings reads as ls -/
def StrsAt (w : World) (v : Value) (ls : List (List UInt8)) : Prop :=
  (v = .slice none 0 0 ∧ ls = []) ∨ ∃ (b o c : Nat), v = .slice (some ⟨b, o, none⟩) ls.length c ∧ ls.length ≤ c ∧ b < w.heap.size ∧ ∀ j, j < ls.length → w.cell? ⟨b, o + j, none⟩ = some (.string (bs (ls.getD j [])))

theorem StrsAt.below {w w' : World} {v : Value} {ls : List (List UInt8)} (h : StrsAt w v ls) (hb : Below w.heap.size w w') : StrsAt w' v ls := by
  rcases h with h | ⟨b, o, c, h1, h2, h3, h4⟩
  · exact .inl h
  · exact .inr ⟨b, o, c, h1, h2, Nat.lt_of_lt_of_le h3 hb.size, fun j hj => (hb.cell (p := ⟨b, o + j, none⟩) h3).trans (h4 j hj)⟩

/-- a slice of strings that the call itself made, in blocks from base on -/
def OwnS (w : World) (base : Nat) (v : Value) (ls : List (List UInt8)) : Prop := w.ownsRow base 9 1 v ls.length (cellsS ls)

theorem OwnS.strs {w : World} {base : Nat} {v : Value} {l : List (List UInt8)} (h : OwnS w base v l) : StrsAt w v l := by
  have hlt := World.ownsRow.lt h
  rcases h.2 with ⟨rfl, h0⟩ | ⟨g, cap, cur, rfl, _, hg, hc, _, _, ht⟩
  · exact Or.inl ⟨rfl, List.eq_nil_of_length_eq_zero h0⟩
  · refine Or.inr ⟨g, 0, cap, rfl, hc, (hlt g rfl).2, fun i hi => ?_⟩
    have e : (cellsS l)[i]? = some (.string (bs (l.getD i []))) := by simp [cellsS, hi]
    rw [← ht, List.getElem?_take, if_pos (by omega)] at e
    simp only [World.cell?, hg, Nat.zero_add]
    simpa using e

theorem OwnS.base {w : World} {b b' : Nat} {v : Value} {l : List (List UInt8)} (h : OwnS w b v l) (hb : b' ≤ b) : OwnS w b' v l := by
  refine ⟨h.1, ?_⟩
  rcases h.2 with h0 | ⟨g, cap, cur, e, h1, r⟩
  · exact .inl h0
  · exact .inr ⟨g, cap, cur, e, Nat.le_trans hb h1, r⟩

theorem OwnS.step {w' : World} {base : Nat} {v' : Value} {l : List (List UInt8)} {s : List UInt8} (h : w'.ownsRow base 9 1 v' (l.length + 1) (cellsS l ++ [.string (bs s)])) : OwnS w' base v' (l ++ [s]) := by
  unfold OwnS
  rw [cellsS_append, List.length_append]
  exact h

theorem OwnS.form {w : World} {base : Nat} {v : Value} {l : List (List UInt8)} (h : OwnS w base v l) : ∃ a n cap, v = .slice a n cap ∧ Hid (n = l.length) := by
  rcases h.2 with ⟨rfl, h0⟩ | ⟨g, cap, cur, rfl, _, _, _, _, _, _⟩
  · exact ⟨none, 0, 0, rfl, h0.symm⟩
  · exact ⟨_, _, _, rfl, rfl⟩

theorem OwnS.parts {w : World} {base : Nat} {v : Value} {l : List (List UInt8)} (h : OwnS w base v l) : (v = .slice none 0 0 ∧ l = []) ∨ ∃ g cap, v = .slice (some ⟨g, 0, none⟩) l.length cap ∧ base ≤ g := by
  rcases h.2 with ⟨rfl, h0⟩ | ⟨g, cap, cur, rfl, hb, hg, hc, _, _, ht⟩
  · exact .inl ⟨rfl, List.eq_nil_of_length_eq_zero h0⟩
  · exact .inr ⟨g, cap, rfl, hb⟩
theorem cellsS_set (l : List (List UInt8)) (k : Nat) (x : List UInt8) : (cellsS l).set k (.string (bs x)) = cellsS (l.set k x) := by
  unfold cellsS; rw [List.map_set]

/-- list[k] = x, in a slice of the call's own -/
theorem OwnS.set {w : World} {B g n cap k : Nat} {ls : List (List UInt8)} (h : OwnS w B (.slice (some ⟨g, 0, none⟩) n cap) ls) (hk : k < ls.length) (x : List UInt8) :
    w.cell? ⟨g, k, none⟩ = some (.string (bs (ls.getD k []))) ∧ w.frozen? ⟨g, k, none⟩ = false ∧ OwnS (w.setCell ⟨g, k, none⟩ (.string (bs x))) B (.slice (some ⟨g, 0, none⟩) n cap) (ls.set k x) ∧ ∀ m₀ u, m₀ ≤ B → Below m₀ u w → Below m₀ u (w.setCell ⟨g, k, none⟩ (.string (bs x))) := by
  obtain rfl : n = ls.length := by
    rcases h.2 with ⟨h', _⟩ | ⟨g', cap', cur, h', _⟩
    · simp at h'
    · simp at h'; exact h'.2.1
  have hst := World.ownsRow.stored h k (.string (bs x))
  have hfr := World.ownsRow.frozenAt h k
  have hgb := (World.ownsRow.lt h g rfl).1
  refine ⟨?_, hfr, ?_, fun m₀ u hm hb => hb.setCell (p := ⟨g, k, none⟩) (Nat.le_trans hm hgb) _⟩
  · rcases h.strs with ⟨h', _⟩ | ⟨b, o, c, h', _, _, h3⟩
    · simp at h'
    · simp at h'
      obtain ⟨⟨rfl, rfl⟩, rfl⟩ := h'
      have := h3 k hk
      rwa [Nat.zero_add] at this
  · unfold OwnS
    rw [← cellsS_set, List.length_set]
    exact hst.1

end Go.Proofs.YtcjnpklmfcbofaaGreatDoor
end

/- lines.Split, lines.Join. -/
set_option linter.unusedVariables false
set_option linter.unusedSimpArgs false
section
namespace Go.Proofs.YtcjnpklmfcbofaaGreatDoor
open Go.RowKit Go Go.Shelf
attribute [local go_sem] Oper.semAt_some

theorem lines_any (s : List UInt8) (w : World) : Calls Tryz.prog 69 #[.string (bs s)] w fun e w' => e = .returned (.func (.func 90) #[] #[.pointer (some ⟨w.heap.size, 0, none⟩)]) ∧ w.alloc (.cells #[.string (bs s)] 9) = w' := by
  go_enter Tryz.func69, Tryz.ntmps69
  go_wp2
  go_ret
  exact ⟨rfl, rfl⟩

/-- a slice of strings handed back -/
def Strs (B : Nat) (ls : List (List UInt8)) (w : World) (e : Ending) (w' : World) : Prop := ∃ v, e = .returned v ∧ OwnS w' B v ls ∧ Below B w w'

set_option maxRecDepth 100000 in
set_option maxHeartbeats 2000000 in
theorem split_any (s : List UInt8) (w : World) (hs : s.length ≤ 1099511627776) : Calls Tryz.prog 27 #[.string (bs s)] w (Strs w.heap.size (linesOf s) w) := by
  obtain ⟨i0, hi, hz0, hz1, hz2⟩ := info_parts info_str
  have hll := linesOf_length s
  refine (callsIn_wide (n := 3)).1 ?_
  refine callsIn_of_wp_marks Tryz.func27 rfl trivial ?_ rfl
  simp only [Tryz.ntmps27, List.size_toArray, List.length_cons, List.length_nil, Nat.reduceAdd, Nat.reduceSub, Array.replicate_succ, Array.replicate_zero, List.push_toArray, List.append_toArray, List.nil_append, List.cons_append]
  gi_wp2_with (refine ⟨trivial, ?_⟩; gi_at_call 69; refine (callsIn_wide.2 (lines_any _ _)).mono ?_; rintro e w' ⟨rfl, rfl⟩)
  have bO := Boxed.new w 49 (.slice none 0 0)
  have bN := Boxed.new (w.alloc (.cells #[.slice none 0 0] 49)) 9 (.string (bs s))
  rw [World.size_alloc] at bN
  have hB0 : Below w.heap.size w ((w.alloc (.cells #[.slice none 0 0] 49)).alloc (.cells #[.string (bs s)] 9)) := ((Below.refl _ w).alloc (Nat.le_refl _) _).alloc (by simp) _
  refine wpIn_rangeFunc_box rfl (by omega) (gf := 90) (b := w.heap.size + 1) (t := 9) rfl trivial (enters_of Tryz.func90 (by kernel_rfl) rfl)
    (lines_seq 2 (by omega) _ s (by omega)) bN rfl
    (fun pre W => (∃ v, Boxed W w.heap.size 49 v ∧ W.ownsRow (w.heap.size + 2) 9 1 v pre.length (cellsS pre) ∧ True) ∧ Below w.heap.size w W ∧ w.heap.size + 2 ≤ W.heap.size)
    (fun _ _ _ => False)
    (OwnFrom.and (Own.from (holdsRow_own (w.heap.size + 2) w.heap.size 49 9 1 (fun pre => pre.length) (fun pre => cellsS pre) (fun _ _ => True)) _) (OwnFrom.and (ownFrom_below (Nat.le_refl _) (by simp; omega)) ownFrom_size))
    (fun _ _ _ _ _ hs _ _ => hs)
    (AbidesBox.and (by
      rintro pre W W' ⟨v, hv, hr, _⟩ hg
      refine ⟨v, hv.kept hg (by simp), hr.kept hg ?_, trivial⟩
      have := World.ownsRow.lt hr
      cases ho : v.ownBlock with
      | none => exact .inl rfl
      | some k =>
        have := (this k ho).1
        exact .inr (by simp; omega)) (AbidesBox.and (abidesBox_below (by omega) (Nat.le_refl _)) abidesBox_size))
    (fun _ _ _ _ hs _ => hs)
    ⟨⟨_, bO.alloc _, World.ownsRow_nil _ _ _ _, trivial⟩, hB0, by simp⟩
    (fun x => { tmps := #[.string (bs s), undef, .slice none 0 0, .pointer (some ⟨w.heap.size, 0, none⟩), .string (bs x), .string (bs s), .func (.func 90) #[] #[.pointer (some ⟨w.heap.size + 1, 0, none⟩)], .string (bs x), undef, undef, undef, undef, undef], defers := [] }) ?assign ?body ?done ?stop
  case assign =>
    intro l x W K hK
    gi_wp2
    exact hK
  case body =>
    rintro l pre x W hpre ⟨⟨v, hv, hrow, _⟩, hB, hbW⟩
    have hc := hv.cell
    have hpl : pre.length + 1 ≤ (linesOf s).length := by have := hpre.length_le; simpa using this
    have hzW := hB.size
    gi_wp2_with (gi_at_builtin; refine wpListIn_append_own _ rfl _ _ 49 rfl (w.heap.size + 2) 9 i0 (.string ⟨#[]⟩) 1 16 Tryz.underlying49 hi hz0 hz1 hz2 rfl (by decide) _ _ _ rfl (hrow.alloc _) ⟨W.heap.size, 0, none⟩ 1 1 [.string (bs x)] rfl rfl (cell_one_new _ _ _) (by simp [Value.oneCell']) (by unfold maxLen; omega) (by omega) (by simp; omega) ?_; intro v' w1 hown' hgrow _; obtain ⟨g', cap', rfl⟩ := ownsRow_succ hown'; obtain ⟨hv1, hv2, hr2, hk2, hb2, ho2⟩ := boxed_appended hv (by decide) hrow (by omega) hzW (Nat.le_refl _) hown' hgrow; have hc1 := hv1.cell; have hf1 := hv1.frozen)
    exact ⟨hk2.from _, ho2 _ (by omega) (by omega) (by omega), ⟨_, hv2, by rw [cellsS_append, List.length_append]; exact hr2, trivial⟩, hB.trans hb2, Nat.le_trans hbW hk2.size⟩
  case done =>
    rintro D W hD ⟨⟨v, hv, hrow, _⟩, hB, hbW⟩ hK
    have hc := hv.cell
    gi_wp2
    refine ⟨by simp, .inl ⟨_, _, rfl, run_takeDeferred hK, ?_⟩⟩
    exact ⟨_, results_tmp rfl _ _ _, v, rfl, OwnS.base (ownsRow_putObj hrow _ hK rfl) (by omega), hB.trans (belowK_b (w := w) (Nat.le_refl _) W D _ _ (by simp at hD; omega) hK rfl rfl)⟩
  case stop =>
    rintro D c pre W _ _ h _
    exact h.elim

end Go.Proofs.YtcjnpklmfcbofaaGreatDoor
end

/- quote.Looks, Quote, Unquote. -/
set_option linter.unusedVariables false
set_option linter.unusedSimpArgs false
section
namespace Go.Proofs.YtcjnpklmfcbofaaGreatDoor
open Go.RowKit

theorem trim_any (l : List UInt8) (w : World) : Calls Tryz.prog 70 #[.string (bs l), .string (bs [62])] w fun e w' => e = .returned (.string (bs (unmark l))) ∧ w = w' :=
  (Tryz.strings_TrimLeft_one (bs l) 62 (by decide) w).mono fun _ _ ⟨h, k⟩ => ⟨h, k.symm⟩
theorem prefix_any (l p : List UInt8) (w : World) : Calls Tryz.prog 71 #[.string (bs l), .string (bs p)] w fun e w' => e = .returned (.bool (p.isPrefixOf l)) ∧ w = w' :=
  (Tryz.strings_HasPrefix (bs l) (bs p) w).mono fun _ _ ⟨h, k⟩ => ⟨h, k.symm⟩

theorem looks_any (l : List UInt8) (w : World) (hl : l.length ≤ 140737488355328) : Calls Tryz.prog 28 #[.string (bs l)] w fun e w' => e = .returned (.tuple #[.bool (sepB l), .bool (quotedB l)]) ∧ w = w' := by
  have h1 := unmark_length l
  have h2 := unmark_lt l
  have h3 := unmark_no l
  unfold sepB quotedB
  obtain ⟨b, hb⟩ : ∃ b, looks l = b := ⟨_, rfl⟩
  obtain ⟨c, hc⟩ : ∃ c, headM l = c := ⟨_, rfl⟩
  rw [hb, hc]
  rw [hc] at h2 h3
  unfold looks at hb
  have HB := Lib.hid hb
  clear hb hc
  cases b <;> cases c
  all_goals
    simp at h2 h3
    try have h3' := congrArg List.length h3
    clear h3
    try have hL : (unmark l).length = l.length := by omega
    try have HL := Lib.hid hL
    try clear hL
    first
      | (have e1 : decide ((unmark l).length = l.length) = true := by simpa using HL.out
         have e2 : decide ((unmark l).length < l.length) = false := by simp [HL.out]
         have e3 : (((unmark l).length : Int) == (l.length : Int)) = true := by simp [HL.out])
      | (have e1 : decide ((unmark l).length = l.length) = false := by simp; omega
         have e2 : decide ((unmark l).length < l.length) = true := by simp; omega
         have e3 : (((unmark l).length : Int) == (l.length : Int)) = false := by simp; omega)
    go_enter Tryz.func28, Tryz.ntmps28
    go_wp2_with fail
    refine (trim_any _ _).mono ?_
    rintro e w' ⟨rfl, rfl⟩
    go_wp2_with fail
    refine (prefix_any _ fromL _).mono ?_
    rintro e w' ⟨rfl, rfl⟩
    rw [HB.out]
    go_wp2
    go_ret2
    exact ⟨rfl, rfl⟩

set_option maxHeartbeats 400000 in
theorem quote_any (l : List UInt8) (w : World) (hl : l.length ≤ 140737488355328) : Calls Tryz.prog 38 #[.string (bs l)] w fun e w' => e = .returned (.string (bs (quoteL l))) ∧ w = w' := by
  have hs : sepB l = (looks l && !headM l) := rfl
  have hq : quotedB l = (looks l && headM l) := rfl
  unfold quoteL
  obtain ⟨b, hb⟩ : ∃ b, looks l = b := ⟨_, rfl⟩
  obtain ⟨c, hc⟩ : ∃ c, headM l = c := ⟨_, rfl⟩
  rw [hb, hc] at hs hq
  rw [hb]
  have HS := Lib.hid hs
  have HQ := Lib.hid hq
  clear hs hq hb hc
  cases b <;> cases c
  all_goals
    go_enter Tryz.func38, Tryz.ntmps38
    go_wp2_with fail
    refine (looks_any l _ hl).mono ?_
    rintro e w' ⟨rfl, rfl⟩
    rw [HS.out, HQ.out]
    go_wp2
    go_ret
    refine ⟨?_, rfl⟩
    simp
  all_goals exact bs_append [62] l

set_option maxHeartbeats 400000 in
theorem unquote_any (l : List UInt8) (w : World) (hl : l.length ≤ 140737488355328) : Calls Tryz.prog 73 #[.string (bs l)] w fun e w' => e = .returned (.string (bs (unquoteL l))) ∧ w = w' := by
  unfold unquoteL
  obtain ⟨b, hb⟩ : ∃ b, quotedB l = b := ⟨_, rfl⟩
  rw [hb]
  have HB := Lib.hid hb
  cases b
  · clear hb
    go_enter Tryz.func73, Tryz.ntmps73
    go_wp2_with fail
    refine (looks_any l _ hl).mono ?_
    rintro e w' ⟨rfl, rfl⟩
    rw [HB.out]
    go_wp2
    go_ret
    exact ⟨rfl, rfl⟩
  · unfold quotedB at hb
    simp at hb
    obtain ⟨r, rfl⟩ := (headM_iff l).1 hb.2
    clear hb
    have h1 := run_from (62 :: r) 1 (by simp)
    go_enter Tryz.func73, Tryz.ntmps73
    go_wp2_with fail
    refine (looks_any (62 :: r) _ hl).mono ?_
    rintro e w' ⟨rfl, rfl⟩
    rw [HB.out]
    go_wp2
    go_ret
    refine ⟨?_, rfl⟩
    simp
    rw [bs_drop _ _ _ (by simp)]
    rfl

end Go.Proofs.YtcjnpklmfcbofaaGreatDoor
end

/- strings.Join without a separator, lines.Join. -/
set_option linter.unusedVariables false
set_option linter.unusedSimpArgs false
section
namespace Go.Proofs.YtcjnpklmfcbofaaGreatDoor
open Go.RowKit Go

theorem join_flatten (ls : List (List UInt8)) : Lib.join ls [] = ls.flatten := by
  induction ls with
  | nil => rfl
  | cons x r ih =>
    cases r with
    | nil => simp [Lib.join]
    | cons y r =>
      have h : Lib.join (x :: y :: r) [] = x ++ ([] ++ Lib.join (y :: r) []) := rfl
      rw [h, ih]; simp

/-- strings.Join(v, "") -/
theorem join_any (w : World) (v : Value) (ls : List (List UInt8)) (hv : StrsAt w v ls) (hn : ls.length ≤ 140737488355328) (hl : ls.flatten.length ≤ 140737488355328) :
    Calls Tryz.prog 23 #[v, .string (bs [])] w fun e w' => e = .returned (.string (bs ls.flatten)) ∧ Below w.heap.size w w' := by
  rcases hv with ⟨rfl, rfl⟩ | ⟨b, o, c, rfl, h1, h2, h3⟩
  · exact (Tryz.strings_Join_none none 0 (bs []) w).mono fun _ _ ⟨he, hw⟩ => ⟨he, hw ▸ Below.refl _ _⟩
  · have e : (ls.map bs).map (·.data.toList) = ls := by rw [List.map_map]; exact List.map_id ls
    have hj := Tryz.strings_Join b o c (ls.map bs) (bs []) w (fun j x hx => by
      rw [List.getElem?_map] at hx
      cases hq : ls[j]? with
      | none => rw [hq] at hx; cases hx
      | some y =>
        rw [hq] at hx
        obtain rfl := Option.some.inj hx
        have hlt := (List.getElem?_eq_some_iff.1 hq).1
        rw [h3 j hlt]
        simp [List.getD, hq]) h2 (by simpa using hn) (by simpa using h1) (by rw [e, join_flatten]; exact hl)
    rw [e, join_flatten, List.length_map] at hj
    exact hj


theorem lineJoin_any (w : World) (v : Value) (ls : List (List UInt8)) (hv : StrsAt w v ls) (hn : ls.length ≤ 140737488355328) (hl : ls.flatten.length ≤ 140737488355328) :
    Calls Tryz.prog 76 #[v] w fun e w' => e = .returned (.string (bs ls.flatten)) ∧ Below w.heap.size w w' := by
  have HL := Lib.hid hl
  have HN := Lib.hid hn
  clear hl hn
  have HV := Lib.hid hv
  clear hv
  go_enter Tryz.func76, Tryz.ntmps76
  go_wp2_with fail
  refine (join_any _ _ ls HV.out HN.out HL.out).mono ?_
  rintro e w1 ⟨rfl, hb1⟩
  go_wp2
  go_ret
  exact ⟨rfl, hb1⟩

end Go.Proofs.YtcjnpklmfcbofaaGreatDoor
end
