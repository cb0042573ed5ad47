/- The dates' texts: a year's digits; the four ways to write a date; dates.text and the four texts of a moment. -/
import Derived.Test.YtcjnpklmfcbofaaDoorD9
import Derived.Lib.LaidTab
import Derived.Lib.AppendIntMem
import Derived.WalkSmall
set_option linter.unusedVariables false
set_option linter.unusedSimpArgs false
namespace Go.Proofs.YtcjnpklmfcbofaaDoor
open Go.RowKit Go.Sort

/-- the library's table of powers of ten stands as its text lays it -/
def Tab (w : World) : Prop := Lib.TabIs Tryd.prog w "internal/strconv.uint64pow10" .u64 Lib.pow10Tab

theorem tabNamed : Tryd.prog.globalNamed "internal/strconv.uint64pow10" = some 13 := by kernel_rfl

theorem Tab.lt {w : World} (h : Tab w) : 13 < w.heap.size := cell_lt (Lib.TabIs.cell h tabNamed 0 (by decide))
theorem Tab.below {w w' : World} (h : Tab w) (hb : Below w.heap.size w w') : Tab w' := var?_below hb tabNamed h.lt h

theorem itoa_any (n : Int) (w : World) (h0 : 0 ≤ n) (h1 : n ≤ 9999) (hT : Tab w) : Calls Tryd.prog 36 #[.int .i64 n] w fun e w' => e = .returned (.string (bs (Lib.decDigits n.toNat))) ∧ Below w.heap.size w w' := by
  refine (Tryd.strconv_Itoa n (by omega) (by omega) w hT).mono ?_
  rintro e w' ⟨rfl, k, os, rfl⟩
  exact ⟨ret_str (by unfold Lib.itoa; rw [if_neg (by omega)]), Lib.below_grow _ _ (Nat.le_refl _) _ _⟩

theorem year_len : ∀ n : Nat, n < 130 → (Lib.decDigits (1970 + n)).length ≤ 4 := by decide +kernel
theorem yearL_len (y : Int) (h0 : 1970 ≤ y) (h1 : y ≤ 2099) : (Lib.decDigits y.toNat).length ≤ 4 := by
  have := year_len (y.toNat - 1970) (by omega)
  rwa [show 1970 + (y.toNat - 1970) = y.toNat by omega] at this
theorem clockL_len (h mi s : Int) (h0 : 0 ≤ h) (h1 : h ≤ 23) (i0 : 0 ≤ mi) (i1 : mi ≤ 59) (s0 : 0 ≤ s) (s1 : s ≤ 59) : (clockL h mi s).length ≤ 20 := by
  have l1 := twoL_len h [48] h0 (by omega) (by decide)
  have l2 := twoL_len mi [48] i0 (by omega) (by decide)
  have l3 := twoL_len s [48] s0 (by omega) (by decide)
  unfold clockL
  simp only [List.length_append, List.length_cons, List.length_nil]
  omega

/-- a date field's text, a separator line's, IMAP's, a day -/
def mailL (y m d h mi s wk : Int) : List UInt8 := weekL wk ++ [44, 32] ++ twoL d [48] ++ [32] ++ monthL m ++ [32] ++ Lib.decDigits y.toNat ++ [32] ++ clockL h mi s ++ [32, 43, 48, 48, 48, 48]
def boxL (y m d h mi s wk : Int) : List UInt8 := weekL wk ++ [32] ++ monthL m ++ [32] ++ twoL d [32] ++ [32] ++ clockL h mi s ++ [32] ++ Lib.decDigits y.toNat
def interL (y m d h mi s : Int) : List UInt8 := twoL d [32] ++ [45] ++ monthL m ++ [45] ++ Lib.decDigits y.toNat ++ [32] ++ clockL h mi s ++ [32, 43, 48, 48, 48, 48]
def dayL (y m d : Int) : List UInt8 := Lib.decDigits d.toNat ++ [45] ++ monthL m ++ [45] ++ Lib.decDigits y.toNat

/-- the bounds of a date's parts -/
def Bds (y m d h mi s wk : Int) : Prop := 1970 ≤ y ∧ y ≤ 2099 ∧ 1 ≤ m ∧ m ≤ 12 ∧ 1 ≤ d ∧ d ≤ 31 ∧ 0 ≤ h ∧ h ≤ 23 ∧ 0 ≤ mi ∧ mi ≤ 59 ∧ 0 ≤ s ∧ s ≤ 59 ∧ 0 ≤ wk ∧ wk ≤ 6

set_option maxRecDepth 100000 in
set_option maxHeartbeats 2000000 in
theorem box_cl (y m d h mi s wk : Int) (w : World) (hT : Tab w) (hb : Bds y m d h mi s wk) : Calls Tryd.prog 31 #[.agg #[.int .i64 y, .int .i64 m, .int .i64 d, .int .i64 h, .int .i64 mi, .int .i64 s, .int .i64 wk]] w fun e w' => e = .returned (.string (bs (boxL y m d h mi s wk))) ∧ Below w.heap.size w w' := by
  obtain ⟨y0, y1, m0, m1, d0, d1, h0, h1, i0, i1, s0, s1, k0, k1⟩ := hb
  have l1 := weekL_len wk
  have l2 := twoL_len d [32] (by omega) (by omega) (by decide)
  have l3 := monthL_len m
  have l4 := yearL_len y y0 y1
  have l5 := clockL_len h mi s h0 h1 i0 i1 s0 s1
  obtain ⟨W1, hW1⟩ : ∃ W1, w.alloc (.cells (civA y m d h mi s wk) 67) = W1 := ⟨_, rfl⟩
  have hk : W1.heap[w.heap.size]? = some (.cells (civA y m d h mi s wk) 67 (0, 0)) := by rw [← hW1]; exact heap_new _ _
  have hB : Below w.heap.size w W1 := by rw [← hW1]; exact (Below.refl _ _).alloc (Nat.le_refl _) _
  have hT1 := hT.below hB
  have hTg := fun g : Grow W1 => hT1.below g.h
  obtain ⟨c0, c1, c2, c3, c4, c5, c6, _⟩ := civA_cells hk
  have g0 := fun g : Grow W1 => g.cell c0
  have g1 := fun g : Grow W1 => g.cell c1
  have g2 := fun g : Grow W1 => g.cell c2
  have g3 := fun g : Grow W1 => g.cell c3
  have g4 := fun g : Grow W1 => g.cell c4
  have g5 := fun g : Grow W1 => g.cell c5
  have g6 := fun g : Grow W1 => g.cell c6
  unfold civA at hW1
  have HW := Lib.hid hW1
  clear hk c0 c1 c2 c3 c4 c5 c6 hW1
  go_enter Tryd.func31, Tryd.ntmps31
  go_wp2
  rw [HW.out]
  refine wp_region_grow (by kernel_rfl) (by kernel_rfl) ?_
  repeat (go_big_quiet_step ((first | (go_at_call 32; exact grow_call (week_any _ _ _ _ _ _ _ _ k0 k1)) | (go_at_call 33; exact grow_call (month_any _ _ _ _ _ _ _ _ m0 m1)) | (go_at_call 35; exact grow_call (clock_any _ _ _ _ _ _ _ _ h0 h1 i0 i1 s0 s1)) | (go_at_call 36; exact grow_call (itoa_any _ _ (by omega) (by omega) (hTg _))) | (go_at_call 34; exact grow_same (two_any _ _ _ (by omega) (by omega) (by decide))))))
  refine wpQuiet_nil ?_
  rintro _ ⟨gw, rfl⟩
  go_wp2
  go_ret
  exact ⟨ret_str (by unfold boxL; simp only [← bs_append]), hB.trans (gw.h.mono hB.size)⟩

/-- how the text of a moment in range comes back -/
def dboxPost (t : Int) (w : World) (e : Ending) (w' : World) : Prop := ∃ y m d h mi s wk, Cal.civ7 t y m d h mi s wk ∧ e = .returned (.tuple #[.string (bs (boxL y m d h mi s wk)), .nilIface]) ∧ Below w.heap.size w w'

set_option maxRecDepth 100000 in
theorem text_box (t : Int) (w : World) (hT : Tab w) (h0 : 0 ≤ t) (h1 : t ≤ 4102444799) :
    Calls Tryd.prog 30 #[.int .i64 t, .func (.func 31) #[] #[]] w (dboxPost t w) := by
  go_enter Tryd.func30, Tryd.ntmps30
  go_wp2_with fail
  refine (civil_in t _ h0 h1).mono ?_
  rintro e w1 ⟨y, m, d, h, mi, s, wk, hcv, rfl, rfl⟩
  have hbd := Cal.civ7_bd h0 hcv
  have hB : ∀ o : Obj, Below w.heap.size w (((w.alloc (.cells #[.int .i64 y, .int .i64 m, .int .i64 d, .int .i64 h, .int .i64 mi, .int .i64 s, .int .i64 wk] 67)).alloc (.cells #[.int .i64 y, .int .i64 m, .int .i64 d, .int .i64 h, .int .i64 mi, .int .i64 s, .int .i64 wk] 67)).alloc o) := fun o =>
    (((Below.refl _ _).alloc (Nat.le_refl _) _).alloc (by simp) _).alloc (by simp; omega) _
  have HB := Lib.hid hB
  clear hB
  go_wp2_with (go_at_call 31; refine (box_cl y m d h mi s wk _ (hT.below (HB.out _)) hbd).mono ?_; rintro e w2 ⟨rfl, hb2⟩)
  go_ret2
  exact ⟨y, m, d, h, mi, s, wk, hcv, rfl, (HB.out _).trans (hb2.mono (HB.out _).size)⟩

theorem box_in (t : Int) (w : World) (hT : Tab w) (h0 : 0 ≤ t) (h1 : t ≤ 4102444799) :
    Calls Tryd.prog 19 #[.int .i64 t] w (dboxPost t w) := by
  go_enter Tryd.func19, Tryd.ntmps19
  go_wp2_with (go_at_call 30; refine (text_box t _ hT h0 h1).mono ?_; rintro e w2 ⟨y, m, d, h, mi, s, wk, hcv, rfl, hb2⟩)
  go_ret2
  exact ⟨y, m, d, h, mi, s, wk, hcv, rfl, hb2⟩

theorem text_box_out (t : Int) (w : World) (a : Addr) (h : t < 0 ∨ 4102444799 < t) (hc : w.cell? ⟨2, 0, none⟩ = some (.iface 138 (.pointer (some a)))) :
    Calls Tryd.prog 30 #[.int .i64 t, .func (.func 31) #[] #[]] w fun e w' => e = .returned (.tuple #[.string (bs []), .iface 138 (.pointer (some a))]) ∧ Below w.heap.size w w' := by
  go_enter Tryd.func30, Tryd.ntmps30
  go_wp2_with fail
  refine (civil_out t _ _ h hc).mono ?_
  rintro e w1 ⟨rfl, hb⟩
  unfold civ0
  go_wp2
  go_ret2
  exact ⟨rfl, hb.alloc hb.size _⟩

theorem box_out (t : Int) (w : World) (a : Addr) (h : t < 0 ∨ 4102444799 < t) (hc : w.cell? ⟨2, 0, none⟩ = some (.iface 138 (.pointer (some a)))) :
    Calls Tryd.prog 19 #[.int .i64 t] w fun e w' => e = .returned (.tuple #[.string (bs []), .iface 138 (.pointer (some a))]) ∧ Below w.heap.size w w' := by
  go_enter Tryd.func19, Tryd.ntmps19
  go_wp2_with (go_at_call 30; refine (text_box_out t _ a h hc).mono ?_; rintro e w2 ⟨rfl, hb2⟩)
  go_ret2
  exact ⟨rfl, hb2⟩

end Go.Proofs.YtcjnpklmfcbofaaDoor
